/-
 The formulas of functions, printed by lift.py; each with the theorem that it is what the lift reckons of the program.
-/
import Derived.Test.YteecdmkgblonnaaGreatDoorLfIToN1
set_option linter.unusedVariables false
set_option linter.unusedSimpArgs false
set_option linter.unusedVariables false
set_option maxRecDepth 100000
namespace Go.Lf.G
/-- wherry/wherrylaw09.awake -/
def F_wherrylaw09_awake (A : Amb) (h : Heap) (R : Value → Heap → Prop) : Prop :=
 HCalls A P f_box_New #[] h fun v h1 => ∃ t14 : Option Addr, v = .pointer t14 ∧ (
 HCalls A P f_lsm_Open #[.pointer t14] h1 fun v1 h2 => ∃ t17a : Option Addr, ∃ t17b : Int, v1 = .tuple #[.pointer t17a, .int .i64 t17b] ∧ (
 New h2 (.cells #[.string (⟨#[97]⟩ : ByteArray), .string (⟨#[49]⟩ : ByteArray), .bool false, .string (⟨#[98]⟩ : ByteArray), .string (⟨#[50]⟩ : ByteArray), .bool false] t_api_Pair) fun b h3 =>
 HCalls A P f_lsm_DB_Write #[.pointer t17a, .slice (some (⟨b, 0, none⟩ : Addr)) 2 2] h3 fun v2 h4 => ∃ t24 : Int, v2 = .int .i64 t24 ∧ (
 HCalls A P f_lsm_DB_Flush #[.pointer t17a] h4 fun v3 h5 => ∃ t26 : Int, v3 = .int .i64 t26 ∧ (
 New h5 (.cells #[.string (⟨#[97]⟩ : ByteArray), .string (⟨#[]⟩ : ByteArray), .bool true] t_api_Pair) fun b1 h6 =>
 HCalls A P f_lsm_DB_Write #[.pointer t17a, .slice (some (⟨b1, 0, none⟩ : Addr)) 1 1] h6 fun v4 h7 => ∃ t30 : Int, v4 = .int .i64 t30 ∧ (
 HCalls A P f_box_Box_Crash #[.pointer t14, .slice none 0 0] h7 fun v5 h8 => ∃ t33 : Option Addr, v5 = .pointer t33 ∧ (
 HCalls A P f_lsm_Open #[.pointer t33] h8 fun v6 h9 => ∃ t34a : Option Addr, ∃ t34b : Int, v6 = .tuple #[.pointer t34a, .int .i64 t34b] ∧ (
 HCalls A P f_lsm_DB_Get #[.pointer t34a, .string (⟨#[98]⟩ : ByteArray)] h9 fun v7 h10 => ∃ t39a : ByteArray, ∃ t39b : Bool, ∃ t39c : Int, v7 = .tuple #[.string t39a, .bool t39b, .int .i64 t39c] ∧ (
 HCalls A P f_lsm_DB_Get #[.pointer t34a, .string (⟨#[97]⟩ : ByteArray)] h10 fun v8 h11 => ∃ t45a : ByteArray, ∃ t45b : Bool, ∃ t45c : Int, v8 = .tuple #[.string t45a, .bool t45b, .int .i64 t45c] ∧ (
 PIf (t17b == (0 : Int)) (
 PIf (t24 == (0 : Int)) (
 PIf (t26 == (0 : Int)) (
 PIf (t30 == (0 : Int)) (
 PIf (t34b == (0 : Int)) (
 PIf (t39c == (0 : Int)) (
 PIf (t45c == (0 : Int)) (
 PIf (sEq t39a (⟨#[50]⟩ : ByteArray)) (
 PIf t39b (
 PIf (!t45b) (
 HCalls A P f_lsm_Check #[.slice none 0 0] h11 fun v9 h12 => ∃ t87 : Int, v9 = .int .i64 t87 ∧ (
 R (.bool (t87 == (1 : Int))) h12)) (
 R (.bool false) h11)) (
 R (.bool false) h11)) (
 R (.bool false) h11)) (
 R (.bool false) h11)) (
 R (.bool false) h11)) (
 R (.bool false) h11)) (
 R (.bool false) h11)) (
 R (.bool false) h11)) (
 R (.bool false) h11)) (
 R (.bool false) h11))))))))))
def a_wherrylaw09_awake : Ann := .seq .none (.seq .none (.seq .none (.seq .none (.seq .none (.seq .none (.seq .none (.seq .none (.seq .none (.seq .none .none)))))))))
theorem e_wherrylaw09_awake (A : Amb) (h : Heap) (R : Value → Heap → Prop) : F_wherrylaw09_awake A h R = semFun A P f_wherrylaw09_awake a_wherrylaw09_awake [] h R := by kernel_rfl
theorem ok_wherrylaw09_awake {A : Amb} {h : Heap} {R : Value → Heap → Prop} (H : F_wherrylaw09_awake A h R) : HCalls A P f_wherrylaw09_awake #[] h R :=
 semFun_sound mixed (e_wherrylaw09_awake A h R ▸ H)
/-- wherry/lsm.Open -/
def F_lsm_Open (A : Amb) (b : Option Addr) (h : Heap) (R : Value → Heap → Prop) : Prop :=
 HCalls A P f_wal_Open #[.pointer b, .string (⟨#[110]⟩ : ByteArray)] h fun v h1 => ∃ t27a : Option Addr, ∃ t27b : Sl, ∃ t27c : Int, v = .tuple #[.pointer t27a, .slice t27b.p t27b.len t27b.cap, .int .i64 t27c] ∧ (
 PIf (t27c != (0 : Int)) (
 R (.tuple #[.pointer none, .int .i64 t27c]) h1) (
 HCalls A P f_mem_New #[] h1 fun v1 h2 => ∃ t36 : Option Addr, v1 = .pointer t36 ∧ (
 New h2 (.cells #[.pointer b, .pointer none, .pointer t27a, .pointer t36, .slice none 0 0, .slice none 0 0, .int .i64 1, .int .i64 1, .bool false] t_lsm_DB) fun b1 h3 =>
 Join (fun (s : Unit) h4 =>
 LoadL h4 ((⟨b1, 0, none⟩ : Addr).add 5) fun t81 =>
 Loop (fun K1 (s1 : Int × Unit) h5 =>
 PIf (decide (s1.1 < ((t81.len : Nat) : Int))) (
 Idx t81.p t81.len s1.1 fun a =>
 LoadI .i64 h5 (a.add (s1.1.toNat * 1)) fun t86 =>
 HCalls A P f_lsm_file #[.int .i64 t86] h5 fun v2 h6 => ∃ t90 : ByteArray, v2 = .string t90 ∧ (
 HCalls A P f_box_Box_Read #[.pointer b, .string t90] h6 fun v3 h7 => ∃ t91a : ByteArray, ∃ t91b : Int, v3 = .tuple #[.string t91a, .int .i64 t91b] ∧ (
 PIf (t91b != (0 : Int)) (
 R (.tuple #[.pointer none, .int .i64 t91b]) h7) (
 HCalls A P f_table_Open #[.string t91a] h7 fun v4 h8 => ∃ t99a : Option Addr, ∃ t99b : Int, v4 = .tuple #[.pointer t99a, .int .i64 t99b] ∧ (
 PIf (t99b != (0 : Int)) (
 R (.tuple #[.pointer none, .int .i64 t99b]) h8) (
 LoadL h8 ((⟨b1, 0, none⟩ : Addr).add 4) fun t109 =>
 New h8 (.cells #[.pointer t99a] t_p_table_Table) fun b2 h9 =>
 RunK A P (Builtin.append_ #[t_sl_p_table_Table, t_sl_p_table_Table] t_sl_p_table_Table #[.slice t109.p t109.len t109.cap, .slice (some (⟨b2, 0, none⟩ : Addr)) 1 1]) h9 fun v5 h10 => ∃ t112 : Sl, v5 = .slice t112.p t112.len t112.cap ∧ (
 Store h10 ((⟨b1, 0, none⟩ : Addr).add 4) (.slice t112.p t112.len t112.cap) fun h11 =>
 K1 ((IntKind.wrap .i64 (s1.1 + (1 : Int))), ()) h11))))))) (
 HCalls A P f_wal_Open #[.pointer b, .string (⟨#[108]⟩ : ByteArray)] h5 fun v6 h12 => ∃ t118a : Option Addr, ∃ t118b : Sl, ∃ t118c : Int, v6 = .tuple #[.pointer t118a, .slice t118b.p t118b.len t118b.cap, .int .i64 t118c] ∧ (
 PIf (t118c != (0 : Int)) (
 R (.tuple #[.pointer none, .int .i64 t118c]) h12) (
 Store h12 ((⟨b1, 0, none⟩ : Addr).add 1) (.pointer t118a) fun h13 =>
 Loop (fun K2 (s2 : Unit) h14 =>
 LoadP h14 ((⟨b1, 0, none⟩ : Addr).add 1) fun t132 =>
 HCalls A P f_wal_Log_Segment #[.pointer t132] h14 fun v7 h15 => ∃ t133 : Int, v7 = .int .i64 t133 ∧ (
 LoadI .i64 h15 ((⟨b1, 0, none⟩ : Addr).add 7) fun t137 =>
 And (hget h14 ((⟨b1, 0, none⟩ : Addr).add 7) = some (.int .i64 t137)) <|
 PIf (decide (t133 < t137)) (
 LoadP h15 ((⟨b1, 0, none⟩ : Addr).add 1) fun t143 =>
 HCalls A P f_wal_Log_Rotate #[.pointer t143] h15 fun v8 h16 => ∃ t144a : Int, ∃ t144b : Int, v8 = .tuple #[.int .i64 t144a, .int .i64 t144b] ∧ (
 PIf (t144b != (0 : Int)) (
 R (.tuple #[.pointer none, .int .i64 t144b]) h16) (
 K2 () h16))) (
 Loop (fun K3 (s3 : Int × Unit) h17 =>
 PIf (decide (s3.1 < ((t118b.len : Nat) : Int))) (
 Join (fun (s4 : Unit) h18 =>
 K3 ((IntKind.wrap .i64 (s3.1 + (1 : Int))), ()) h18) fun K4 =>
 Idx t118b.p t118b.len s3.1 fun a1 =>
 LoadS h17 (a1.add (s3.1.toNat * 1)) fun t155 =>
 HCalls A P f_lsm_changes #[.string t155] h17 fun v9 h19 => ∃ t158a : Int, ∃ t158b : Sl, ∃ t158c : Bool, v9 = .tuple #[.int .i64 t158a, .slice t158b.p t158b.len t158b.cap, .bool t158c] ∧ (
 PIf (!t158c) (
 R (.tuple #[.pointer none, .int .i64 60]) h19) (
 LoadI .i64 h19 ((⟨b1, 0, none⟩ : Addr).add 7) fun t168 =>
 PIf (decide (t158a < t168)) (
 K4 () h19) (
 Loop (fun K5 (s5 : Int × Unit) h20 =>
 PIf (decide (s5.1 < ((t158b.len : Nat) : Int))) (
 Idx t158b.p t158b.len s5.1 fun a2 =>
 LoadS h20 (a2.add (s5.1.toNat * 3)) fun t175_0 =>
 LoadS h20 ((a2.add (s5.1.toNat * 3)).add 1) fun t175_1 =>
 LoadB h20 ((a2.add (s5.1.toNat * 3)).add 2) fun t175_2 =>
 New h20 (.cells #[.string (⟨#[]⟩ : ByteArray), .string (⟨#[]⟩ : ByteArray), .bool false] t_api_Pair) fun b3 h21 =>
 Store h21 (⟨b3, 0, none⟩ : Addr) (.string t175_0) fun h22 =>
 Store h22 ((⟨b3, 0, none⟩ : Addr).add 1) (.string t175_1) fun h23 =>
 Store h23 ((⟨b3, 0, none⟩ : Addr).add 2) (.bool t175_2) fun h24 =>
 LoadP h24 ((⟨b1, 0, none⟩ : Addr).add 3) fun t179 =>
 LoadS h24 (⟨b3, 0, none⟩ : Addr) fun t180_0 =>
 LoadS h24 ((⟨b3, 0, none⟩ : Addr).add 1) fun t180_1 =>
 LoadB h24 ((⟨b3, 0, none⟩ : Addr).add 2) fun t180_2 =>
 HCalls A P f_mem_Table_Put #[.pointer t179, .agg #[.string t180_0, .string t180_1, .bool t180_2]] h24 fun v10 h25 => ∃ t181 : Int, v10 = .int .i64 t181 ∧ (
 K5 ((IntKind.wrap .i64 (s5.1 + (1 : Int))), ()) h25)) (
 K4 () h20)) (0, ()) h19)))) (
 HCalls A P f_lsm_DB_sweep #[.pointer (some (⟨b1, 0, none⟩ : Addr))] h17 fun v11 h26 => ∃ t186 : Int, v11 = .int .i64 t186 ∧ (
 R (.tuple #[.pointer (some (⟨b1, 0, none⟩ : Addr)), .int .i64 t186]) h26))) (0, ()) h15))) () h13)))) (0, ()) h4) fun K =>
 PIf (decide (((t27b.len : Nat) : Int) > (0 : Int))) (
 Idx t27b.p t27b.len (IntKind.wrap .i64 (((t27b.len : Nat) : Int) - (1 : Int))) fun a3 =>
 LoadS h3 (a3.add ((IntKind.wrap .i64 (((t27b.len : Nat) : Int) - (1 : Int))).toNat * 1)) fun t47 =>
 HCalls A P f_vary_Read #[.string t47] h3 fun v12 h27 => ∃ t48 : Option Addr, v12 = .pointer t48 ∧ (
 HCalls A P f_vary_Reader_Int #[.pointer t48, .int .i64 2147483647] h27 fun v13 h28 => ∃ t52 : Int, v13 = .int .i64 t52 ∧ (
 HCalls A P f_vary_Reader_Int #[.pointer t48, .int .i64 99999999] h28 fun v14 h29 => ∃ t54 : Int, v14 = .int .i64 t54 ∧ (
 Store h29 ((⟨b1, 0, none⟩ : Addr).add 6) (.int .i64 t52) fun h30 =>
 Store h30 ((⟨b1, 0, none⟩ : Addr).add 7) (.int .i64 t54) fun h31 =>
 HCalls A P f_vary_Reader_Int #[.pointer t48, .int .i64 65536] h31 fun v15 h32 => ∃ t60 : Int, v15 = .int .i64 t60 ∧ (
 Loop (fun K6 (s6 : Int × Unit) h33 =>
 PIf (decide (s6.1 < t60)) (
 LoadL h33 ((⟨b1, 0, none⟩ : Addr).add 5) fun t67 =>
 HCalls A P f_vary_Reader_Int #[.pointer t48, .int .i64 2147483647] h33 fun v16 h34 => ∃ t69 : Int, v16 = .int .i64 t69 ∧ (
 And (hget h34 ((⟨b1, 0, none⟩ : Addr).add 5) = some (.slice t67.p t67.len t67.cap)) <|
 New h34 (.cells #[.int .i64 t69] t_int) fun b4 h35 =>
 And (hget h35 ((⟨b1, 0, none⟩ : Addr).add 5) = some (.slice t67.p t67.len t67.cap)) <|
 RunK A P (Builtin.append_ #[t_sl_int, t_sl_int] t_sl_int #[.slice t67.p t67.len t67.cap, .slice (some (⟨b4, 0, none⟩ : Addr)) 1 1]) h35 fun v17 h36 => ∃ t71 : Sl, v17 = .slice t71.p t71.len t71.cap ∧ (
 Store h36 ((⟨b1, 0, none⟩ : Addr).add 5) (.slice t71.p t71.len t71.cap) fun h37 =>
 K6 ((IntKind.wrap .i64 (s6.1 + (1 : Int))), ()) h37))) (
 HCalls A P f_vary_Reader_End #[.pointer t48] h33 fun v18 h38 => ∃ t76 : Bool, v18 = .bool t76 ∧ (
 PIf (!t76) (
 R (.tuple #[.pointer none, .int .i64 60]) h38) (
 K () h38)))) (0, ()) h32))))) (
 K () h3))))
def a_lsm_Open : Ann := .seq .none (.seq .none (.seq (.seq .none (.cond (.seq .none .none) .none)) (.seq .none (.seqJ [] [0, 7] (.seq .none (.cond (.seq .none (.seq .none (.seq (.seq .none (.block (.loop [(61, .one (.int .i64))] [0, 7, 8, 60] (.seq .none (.seq (.cond .none .none) (.seq (.block .none) .none)))))) (.seq .none (.cond (.seq .none .none) .none))))) .none)) (.seq (.seq .none (.block (.loop [(83, .one (.int .i64))] [0, 7, 81, 82] (.seq .none (.seq (.cond .none .none) (.seq (.block (.seq .none (.seq .none (.seq (.seq .none (.cond (.seq .none .none) .none)) (.seq .none (.seq (.seq .none (.cond (.seq .none .none) .none)) .none)))))) .none)))))) (.seq .none (.seq (.seq .none (.cond (.seq .none .none) .none)) (.seq .none (.seq (.block (.loop [] [7, 15] (.seq (.seq .none (.cond .none .none)) (.block (.seq .none (.seq .none (.cond (.seq .none .none) .none))))))) (.seq (.seq .none (.block (.loop [(152, .one (.int .i64))] [7, 150, 151] (.seq .none (.seq (.cond .none .none) (.seq (.blockJ [] [7, 150, 151, 152] (.seq .none (.seq .none (.seq (.seq .none (.cond (.seq .none .none) .none)) (.seq (.seq .none (.cond .none .none)) (.seq .none (.block (.loop [(172, .one (.int .i64))] [7, 150, 151, 152, 170, 171] (.seq .none (.seq (.cond .none .none) (.seq (.block (.seq .none .none)) .none))))))))))) .none)))))) (.seq .none .none)))))))))))
theorem e_lsm_Open (A : Amb) (b : Option Addr) (h : Heap) (R : Value → Heap → Prop) : F_lsm_Open A b h R = semFun A P f_lsm_Open a_lsm_Open [.pointer b] h R := by kernel_rfl
theorem ok_lsm_Open {A : Amb} {b : Option Addr} {h : Heap} {R : Value → Heap → Prop} (H : F_lsm_Open A b h R) : HCalls A P f_lsm_Open #[.pointer b] h R :=
 semFun_sound mixed (e_lsm_Open A b h R ▸ H)
/-- wherry/box.New -/
def F_box_New (A : Amb) (h : Heap) (R : Value → Heap → Prop) : Prop :=
 New h (.map #[] 0) fun b h1 =>
 New h1 (.cells #[.map (some b), .int .i64 (-1), .bool false] t_box_Box) fun b1 h2 =>
 R (.pointer (some (⟨b1, 0, none⟩ : Addr))) h2
def a_box_New : Ann := .seq .none (.seq .none .none)
theorem e_box_New (A : Amb) (h : Heap) (R : Value → Heap → Prop) : F_box_New A h R = semFun A P f_box_New a_box_New [] h R := by kernel_rfl
theorem ok_box_New {A : Amb} {h : Heap} {R : Value → Heap → Prop} (H : F_box_New A h R) : HCalls A P f_box_New #[] h R :=
 semFun_sound mixed (e_box_New A h R ▸ H)
/-- (*wherry/lsm.DB).Write -/
def F_lsm_DB_Write (A : Amb) (d : Option Addr) (l : Sl) (h : Heap) (R : Value → Heap → Prop) : Prop :=
 Join (fun (r : Bool × Unit) h1 =>
 PIf r.1 (
 R (.int .i64 30) h1) (
 HCalls A P f_lsm_Check #[.slice l.p l.len l.cap] h1 fun v h2 => ∃ t21 : Int, v = .int .i64 t21 ∧ (
 PIf (t21 != (0 : Int)) (
 R (.int .i64 t21) h2) (
 At d fun a =>
 LoadP h2 (a.add 1) fun t28 =>
 At d fun a1 =>
 LoadP h2 (a1.add 1) fun t32 =>
 HCalls A P f_wal_Log_Segment #[.pointer t32] h2 fun v1 h3 => ∃ t33 : Int, v1 = .int .i64 t33 ∧ (
 And (hget h3 (a.add 1) = some (.pointer t28)) <|
 HCalls A P f_lsm_batch #[.int .i64 t33, .slice l.p l.len l.cap] h3 fun v2 h4 => ∃ t35 : ByteArray, v2 = .string t35 ∧ (
 And (hget h4 (a.add 1) = some (.pointer t28)) <|
 HCalls A P f_wal_Log_Append #[.pointer t28, .string t35] h4 fun v3 h5 => ∃ t36 : Int, v3 = .int .i64 t36 ∧ (
 PIf (t36 != (0 : Int)) (
 HCalls A P f_lsm_DB_hurt #[.pointer d, .int .i64 t36] h5 fun v4 h6 => ∃ t41 : Int, v4 = .int .i64 t41 ∧ (
 R (.int .i64 t41) h6)) (
 At d fun a2 =>
 LoadP h5 (a2.add 1) fun t45 =>
 HCalls A P f_wal_Log_Sync #[.pointer t45] h5 fun v5 h7 => ∃ t46 : Int, v5 = .int .i64 t46 ∧ (
 PIf (t46 != (0 : Int)) (
 HCalls A P f_lsm_DB_hurt #[.pointer d, .int .i64 t46] h7 fun v6 h8 => ∃ t51 : Int, v6 = .int .i64 t51 ∧ (
 R (.int .i64 t51) h8)) (
 Loop (fun K1 (s : Int × Unit) h9 =>
 PIf (decide (s.1 < ((l.len : Nat) : Int))) (
 Idx l.p l.len s.1 fun a3 =>
 LoadS h9 (a3.add (s.1.toNat * 3)) fun t57_0 =>
 LoadS h9 ((a3.add (s.1.toNat * 3)).add 1) fun t57_1 =>
 LoadB h9 ((a3.add (s.1.toNat * 3)).add 2) fun t57_2 =>
 New h9 (.cells #[.string (⟨#[]⟩ : ByteArray), .string (⟨#[]⟩ : ByteArray), .bool false] t_api_Pair) fun b h10 =>
 Store h10 (⟨b, 0, none⟩ : Addr) (.string t57_0) fun h11 =>
 Store h11 ((⟨b, 0, none⟩ : Addr).add 1) (.string t57_1) fun h12 =>
 Store h12 ((⟨b, 0, none⟩ : Addr).add 2) (.bool t57_2) fun h13 =>
 At d fun a4 =>
 LoadP h13 (a4.add 3) fun t61 =>
 LoadS h13 (⟨b, 0, none⟩ : Addr) fun t62_0 =>
 LoadS h13 ((⟨b, 0, none⟩ : Addr).add 1) fun t62_1 =>
 LoadB h13 ((⟨b, 0, none⟩ : Addr).add 2) fun t62_2 =>
 HCalls A P f_mem_Table_Put #[.pointer t61, .agg #[.string t62_0, .string t62_1, .bool t62_2]] h13 fun v7 h14 => ∃ t63 : Int, v7 = .int .i64 t63 ∧ (
 K1 ((IntKind.wrap .i64 (s.1 + (1 : Int))), ()) h14)) (
 Join (fun (s1 : Unit) h15 =>
 R (.int .i64 0) h15) fun K2 =>
 At d fun a5 =>
 LoadP h9 (a5.add 3) fun t69 =>
 HCalls A P f_mem_Table_Len #[.pointer t69] h9 fun v8 h16 => ∃ t70a : Int, ∃ t70b : Int, v8 = .tuple #[.int .i64 t70a, .int .i64 t70b] ∧ (
 PIf (decide (t70b ≥ (4096 : Int))) (
 HCalls A P f_lsm_DB_Flush #[.pointer d] h16 fun v9 h17 => ∃ t76 : Int, v9 = .int .i64 t76 ∧ (
 K2 () h17)) (
 K2 () h16)))) (0, ()) h7)))))))))) fun K =>
 PIf (d.isNone) (
 K (true, ()) h) (
 At d fun a6 =>
 LoadB h (a6.add 8) fun t18 =>
 K (t18, ()) h)
def a_lsm_DB_Write : Ann := .seq .none (.seq (.seq (.reg [(19, .one .bool)] [0, 1]) (.cond (.seq .none .none) .none)) (.seq (.seq .none (.seq .none (.cond (.seq .none .none) .none))) (.seq (.seq .none (.seq .none (.cond (.seq .none .none) .none))) (.seq (.seq .none (.seq .none (.cond (.seq .none .none) .none))) (.seq (.seq .none (.block (.loop [(54, .one (.int .i64))] [0, 52, 53] (.seq .none (.seq (.cond .none .none) (.seq (.block (.seq .none .none)) .none)))))) (.seqJ [] [] (.seq .none (.seq .none (.cond .none .none))) (.seq .none .none)))))))
theorem e_lsm_DB_Write (A : Amb) (d : Option Addr) (l : Sl) (h : Heap) (R : Value → Heap → Prop) : F_lsm_DB_Write A d l h R = semFun A P f_lsm_DB_Write a_lsm_DB_Write [.pointer d, .slice l.p l.len l.cap] h R := by kernel_rfl
theorem ok_lsm_DB_Write {A : Amb} {d : Option Addr} {l : Sl} {h : Heap} {R : Value → Heap → Prop} (H : F_lsm_DB_Write A d l h R) : HCalls A P f_lsm_DB_Write #[.pointer d, .slice l.p l.len l.cap] h R :=
 semFun_sound mixed (e_lsm_DB_Write A d l h R ▸ H)
/-- (*wherry/lsm.DB).Scan -/
def F_lsm_DB_Scan (A : Amb) (d : Option Addr) (vfrom : ByteArray) (vto : ByteArray) (most : Int) (h : Heap) (R : Value → Heap → Prop) : Prop :=
 Join (fun (r : Bool × Unit) h1 =>
 PIf r.1 (
 R (.tuple #[.slice none 0 0, .int .i64 30]) h1) (
 HCalls A P f_lsm_DB_all #[.pointer d, .string vfrom, .string vto] h1 fun v h2 => ∃ t21 : Value, v = t21 ∧ (
 HCalls A P f_merge_Live #[t21] h2 fun v1 h3 => ∃ t22 : Value, v1 = t22 ∧ (
 HCalls A P f_merge_Some #[t22, .string vto, .int .i64 most] h3 fun v2 h4 => ∃ t25 : Sl, v2 = .slice t25.p t25.len t25.cap ∧ (
 R (.tuple #[.slice t25.p t25.len t25.cap, .int .i64 0]) h4))))) fun K =>
 PIf (d.isNone) (
 K (true, ()) h) (
 At d fun a =>
 LoadB h (a.add 8) fun t16 =>
 K (t16, ()) h)
def a_lsm_DB_Scan : Ann := .seq .none (.seq (.seq (.reg [(17, .one .bool)] [0, 1, 2, 3]) (.cond (.seq .none .none) .none)) (.seq .none .none))
theorem e_lsm_DB_Scan (A : Amb) (d : Option Addr) (vfrom : ByteArray) (vto : ByteArray) (most : Int) (h : Heap) (R : Value → Heap → Prop) : F_lsm_DB_Scan A d vfrom vto most h R = semFun A P f_lsm_DB_Scan a_lsm_DB_Scan [.pointer d, .string vfrom, .string vto, .int .i64 most] h R := by kernel_rfl
theorem ok_lsm_DB_Scan {A : Amb} {d : Option Addr} {vfrom : ByteArray} {vto : ByteArray} {most : Int} {h : Heap} {R : Value → Heap → Prop} (H : F_lsm_DB_Scan A d vfrom vto most h R) : HCalls A P f_lsm_DB_Scan #[.pointer d, .string vfrom, .string vto, .int .i64 most] h R :=
 semFun_sound mixed (e_lsm_DB_Scan A d vfrom vto most h R ▸ H)
/-- wherry/wherryref05.Same -/
def F_wherryref05_Same (A : Amb) (a : Sl) (b : Sl) (h : Heap) (R : Value → Heap → Prop) : Prop :=
 PIf (((a.len : Nat) : Int) != ((b.len : Nat) : Int)) (
 R (.bool false) h) (
 Loop (fun K (s : Int × Unit) h1 =>
 PIf (decide (s.1 < ((a.len : Nat) : Int))) (
 Idx a.p a.len s.1 fun a1 =>
 LoadS h1 (a1.add (s.1.toNat * 3)) fun t20_0 =>
 LoadS h1 ((a1.add (s.1.toNat * 3)).add 1) fun t20_1 =>
 LoadB h1 ((a1.add (s.1.toNat * 3)).add 2) fun t20_2 =>
 Idx b.p b.len s.1 fun a2 =>
 LoadS h1 (a2.add (s.1.toNat * 3)) fun t24_0 =>
 LoadS h1 ((a2.add (s.1.toNat * 3)).add 1) fun t24_1 =>
 LoadB h1 ((a2.add (s.1.toNat * 3)).add 2) fun t24_2 =>
 RunK A P (do eqGuard .neq t_api_Pair (.tmp 20) (.tmp 24) (.agg #[.string t20_0, .string t20_1, .bool t20_2]) (.agg #[.string t24_0, .string t24_1, .bool t24_2]); binOp .neq t_api_Pair (.agg #[.string t20_0, .string t20_1, .bool t20_2]) (.agg #[.string t24_0, .string t24_1, .bool t24_2])) h1 fun v h2 => ∃ t25 : Bool, v = .bool t25 ∧ (
 PIf t25 (
 R (.bool false) h2) (
 K ((IntKind.wrap .i64 (s.1 + (1 : Int))), ()) h2))) (
 R (.bool true) h1)) (0, ()) h)
def a_wherryref05_Same : Ann := .seq .none (.seq (.seq .none (.cond (.seq .none .none) .none)) (.seq (.seq .none (.block (.loop [(5, .one (.int .i64))] [0, 1] (.seq (.seq .none (.cond .none .none)) (.seq (.block (.seq .none (.cond (.seq .none .none) .none))) .none))))) (.seq .none .none)))
theorem e_wherryref05_Same (A : Amb) (a : Sl) (b : Sl) (h : Heap) (R : Value → Heap → Prop) : F_wherryref05_Same A a b h R = semFun A P f_wherryref05_Same a_wherryref05_Same [.slice a.p a.len a.cap, .slice b.p b.len b.cap] h R := by kernel_rfl
theorem ok_wherryref05_Same {A : Amb} {a : Sl} {b : Sl} {h : Heap} {R : Value → Heap → Prop} (H : F_wherryref05_Same A a b h R) : HCalls A P f_wherryref05_Same #[.slice a.p a.len a.cap, .slice b.p b.len b.cap] h R :=
 semFun_sound mixed (e_wherryref05_Same A a b h R ▸ H)
/-- (*wherry/lsm.DB).Get -/
def F_lsm_DB_Get (A : Amb) (d : Option Addr) (key : ByteArray) (h : Heap) (R : Value → Heap → Prop) : Prop :=
 Join (fun (r : Bool × Unit) h1 =>
 PIf r.1 (
 R (.tuple #[.string (⟨#[]⟩ : ByteArray), .bool false, .int .i64 30]) h1) (
 At d fun a =>
 LoadP h1 (a.add 3) fun t25 =>
 HCalls A P f_mem_Table_Get #[.pointer t25, .string key] h1 fun v h2 => ∃ t27a_0 : ByteArray, ∃ t27a_1 : ByteArray, ∃ t27a_2 : Bool, ∃ t27b : Bool, v = .tuple #[.agg #[.string t27a_0, .string t27a_1, .bool t27a_2], .bool t27b] ∧ (
 New h2 (.cells #[.string (⟨#[]⟩ : ByteArray), .string (⟨#[]⟩ : ByteArray), .bool false] t_api_Pair) fun b h3 =>
 Store h3 (⟨b, 0, none⟩ : Addr) (.string t27a_0) fun h4 =>
 Store h4 ((⟨b, 0, none⟩ : Addr).add 1) (.string t27a_1) fun h5 =>
 Store h5 ((⟨b, 0, none⟩ : Addr).add 2) (.bool t27a_2) fun h6 =>
 PIf t27b (
 LoadS h6 ((⟨b, 0, none⟩ : Addr).add 1) fun t32 =>
 LoadB h6 ((⟨b, 0, none⟩ : Addr).add 2) fun t34 =>
 R (.tuple #[.string t32, .bool (!t34), .int .i64 0]) h6) (
 At d fun a1 =>
 LoadL h6 (a1.add 4) fun t39 =>
 Loop (fun K1 (s : Int × Unit) h7 =>
 PIf (decide (s.1 < ((t39.len : Nat) : Int))) (
 Idx t39.p t39.len s.1 fun a2 =>
 LoadP h7 (a2.add (s.1.toNat * 1)) fun t44 =>
 HCalls A P f_table_Table_Get #[.pointer t44, .string key] h7 fun v1 h8 => ∃ t48a_0 : ByteArray, ∃ t48a_1 : ByteArray, ∃ t48a_2 : Bool, ∃ t48b : Bool, v1 = .tuple #[.agg #[.string t48a_0, .string t48a_1, .bool t48a_2], .bool t48b] ∧ (
 New h8 (.cells #[.string (⟨#[]⟩ : ByteArray), .string (⟨#[]⟩ : ByteArray), .bool false] t_api_Pair) fun b1 h9 =>
 Store h9 (⟨b1, 0, none⟩ : Addr) (.string t48a_0) fun h10 =>
 Store h10 ((⟨b1, 0, none⟩ : Addr).add 1) (.string t48a_1) fun h11 =>
 Store h11 ((⟨b1, 0, none⟩ : Addr).add 2) (.bool t48a_2) fun h12 =>
 PIf t48b (
 LoadS h12 ((⟨b1, 0, none⟩ : Addr).add 1) fun t53 =>
 LoadB h12 ((⟨b1, 0, none⟩ : Addr).add 2) fun t55 =>
 R (.tuple #[.string t53, .bool (!t55), .int .i64 0]) h12) (
 K1 ((IntKind.wrap .i64 (s.1 + (1 : Int))), ()) h12))) (
 R (.tuple #[.string (⟨#[]⟩ : ByteArray), .bool false, .int .i64 0]) h7)) (0, ()) h6)))) fun K =>
 PIf (d.isNone) (
 K (true, ()) h) (
 At d fun a3 =>
 LoadB h (a3.add 8) fun t19 =>
 K (t19, ()) h)
def a_lsm_DB_Get : Ann := .seq .none (.seq (.seq (.reg [(20, .one .bool)] [0, 1]) (.cond (.seq .none .none) .none)) (.seq (.seq .none (.seq .none (.cond (.seq .none .none) .none))) (.seq (.seq .none (.block (.loop [(41, .one (.int .i64))] [1, 39, 40] (.seq .none (.seq (.cond .none .none) (.seq (.block (.seq .none (.seq .none (.seq .none (.cond (.seq .none .none) .none))))) .none)))))) (.seq .none .none))))
theorem e_lsm_DB_Get (A : Amb) (d : Option Addr) (key : ByteArray) (h : Heap) (R : Value → Heap → Prop) : F_lsm_DB_Get A d key h R = semFun A P f_lsm_DB_Get a_lsm_DB_Get [.pointer d, .string key] h R := by kernel_rfl
theorem ok_lsm_DB_Get {A : Amb} {d : Option Addr} {key : ByteArray} {h : Heap} {R : Value → Heap → Prop} (H : F_lsm_DB_Get A d key h R) : HCalls A P f_lsm_DB_Get #[.pointer d, .string key] h R :=
 semFun_sound mixed (e_lsm_DB_Get A d key h R ▸ H)
/-- (*wherry/lsm.DB).Flush -/
def F_lsm_DB_Flush (A : Amb) (d : Option Addr) (h : Heap) (R : Value → Heap → Prop) : Prop :=
 Join (fun (r : Bool × Unit) h1 =>
 PIf r.1 (
 R (.int .i64 30) h1) (
 At d fun a =>
 LoadP h1 (a.add 3) fun t22 =>
 HCalls A P f_mem_Table_Len #[.pointer t22] h1 fun v h2 => ∃ t23a : Int, ∃ t23b : Int, v = .tuple #[.int .i64 t23a, .int .i64 t23b] ∧ (
 PIf (t23a == (0 : Int)) (
 R (.int .i64 0) h2) (
 At d fun a1 =>
 LoadI .i64 h2 (a1.add 6) fun t33 =>
 At d fun a2 =>
 LoadP h2 (a2.add 3) fun t37 =>
 HCalls A P f_mem_Table_From #[.pointer t37, .string (⟨#[]⟩ : ByteArray)] h2 fun v1 h3 => ∃ t38 : Value, v1 = t38 ∧ (
 And (hget h3 (a1.add 6) = some (.int .i64 t33)) <|
 HCalls A P f_slices_Collect_of_api_Pair #[t38] h3 fun v2 h4 => ∃ t39 : Sl, v2 = .slice t39.p t39.len t39.cap ∧ (
 And (hget h4 (a1.add 6) = some (.int .i64 t33)) <|
 HCalls A P f_lsm_DB_lay #[.pointer d, .int .i64 t33, .slice t39.p t39.len t39.cap] h4 fun v3 h5 => ∃ t40a : Option Addr, ∃ t40b : Int, v3 = .tuple #[.pointer t40a, .int .i64 t40b] ∧ (
 PIf (t40b != (0 : Int)) (
 HCalls A P f_lsm_DB_hurt #[.pointer d, .int .i64 t40b] h5 fun v4 h6 => ∃ t47 : Int, v4 = .int .i64 t47 ∧ (
 R (.int .i64 t47) h6)) (
 At d fun a3 =>
 LoadP h5 (a3.add 1) fun t52 =>
 HCalls A P f_wal_Log_Rotate #[.pointer t52] h5 fun v5 h7 => ∃ t53a : Int, ∃ t53b : Int, v5 = .tuple #[.int .i64 t53a, .int .i64 t53b] ∧ (
 PIf (t53b != (0 : Int)) (
 HCalls A P f_lsm_DB_hurt #[.pointer d, .int .i64 t53b] h7 fun v6 h8 => ∃ t60 : Int, v6 = .int .i64 t60 ∧ (
 R (.int .i64 t60) h8)) (
 Join (fun (r1 : Unit) h9 =>
 At d fun a4 =>
 LoadI .i64 h9 (a4.add 6) fun t89 =>
 At d fun a5 =>
 Store h9 (a5.add 6) (.int .i64 (IntKind.wrap .i64 (t89 + (1 : Int)))) fun h10 =>
 At d fun a6 =>
 Store h10 (a6.add 7) (.int .i64 (IntKind.wrap .i64 (t53a + (1 : Int)))) fun h11 =>
 HCalls A P f_lsm_DB_told #[.pointer d] h11 fun v7 h12 => ∃ t98 : Int, v7 = .int .i64 t98 ∧ (
 PIf (t98 != (0 : Int)) (
 HCalls A P f_lsm_DB_hurt #[.pointer d, .int .i64 t98] h12 fun v8 h13 => ∃ t103 : Int, v8 = .int .i64 t103 ∧ (
 R (.int .i64 t103) h13)) (
 HCalls A P f_mem_New #[] h12 fun v9 h14 => ∃ t105 : Option Addr, v9 = .pointer t105 ∧ (
 At d fun a7 =>
 Store h14 (a7.add 3) (.pointer t105) fun h15 =>
 At d fun a8 =>
 LoadP h15 (a8.add 1) fun t111 =>
 HCalls A P f_wal_Log_Drop #[.pointer t111, .int .i64 t53a] h15 fun v10 h16 => ∃ t113 : Int, v10 = .int .i64 t113 ∧ (
 PIf (t113 != (0 : Int)) (
 HCalls A P f_lsm_DB_hurt #[.pointer d, .int .i64 t113] h16 fun v11 h17 => ∃ t118 : Int, v11 = .int .i64 t118 ∧ (
 R (.int .i64 t118) h17)) (
 At d fun a9 =>
 LoadL h16 (a9.add 4) fun t122 =>
 PIf (decide (((t122.len : Nat) : Int) ≥ (4 : Int))) (
 HCalls A P f_lsm_DB_Compact #[.pointer d] h16 fun v12 h18 => ∃ t126 : Int, v12 = .int .i64 t126 ∧ (
 R (.int .i64 t126) h18)) (
 R (.int .i64 0) h16))))))) fun K1 =>
 At d fun a10 =>
 LoadL h7 (a10.add 4) fun t66 =>
 At d fun a11 =>
 LoadL h7 (a11.add 5) fun t73 =>
 At d fun a12 =>
 LoadI .i64 h7 (a12.add 6) fun t77 =>
 And (
 New h7 (.cells #[.pointer t40a] t_p_table_Table) fun b h19 =>
 And (hget h19 (a12.add 6) = some (.int .i64 t77)) <|
 And (hget h19 (a11.add 5) = some (.slice t73.p t73.len t73.cap)) <|
 And (hget h19 (a10.add 4) = some (.slice t66.p t66.len t66.cap)) <|
 And (
 HCalls A P f_slices_Insert_of____table_Table__table_Table #[.slice t66.p t66.len t66.cap, .int .i64 0, .slice (some (⟨b, 0, none⟩ : Addr)) 1 1] h19 fun v13 h20 => ∃ t69 : Sl, v13 = .slice t69.p t69.len t69.cap ∧ (
 And (hget h20 (a12.add 6) = some (.int .i64 t77)) <|
 And (hget h20 (a11.add 5) = some (.slice t73.p t73.len t73.cap)) <|
 New h20 (.cells #[.int .i64 t77] t_int) fun b1 h21 =>
 And (hget h21 (a11.add 5) = some (.slice t73.p t73.len t73.cap)) <|
 And (hget h21 (a10.add 4) = some (.slice t66.p t66.len t66.cap)) <|
 HCalls A P f_slices_Insert_of___int_int #[.slice t73.p t73.len t73.cap, .int .i64 0, .slice (some (⟨b1, 0, none⟩ : Addr)) 1 1] h21 fun v14 h22 => ∃ t79 : Sl, v14 = .slice t79.p t79.len t79.cap ∧ (
 At d fun a13 =>
 Store h22 (a13.add 4) (.slice t69.p t69.len t69.cap) fun h23 =>
 At d fun a14 =>
 Store h23 (a14.add 5) (.slice t79.p t79.len t79.cap) fun h24 =>
 K1 () h24))) <|
 New h19 (.cells #[.int .i64 t77] t_int) fun b2 h25 =>
 And (hget h25 (a11.add 5) = some (.slice t73.p t73.len t73.cap)) <|
 And (hget h25 (a10.add 4) = some (.slice t66.p t66.len t66.cap)) <|
 HCalls A P f_slices_Insert_of____table_Table__table_Table #[.slice t66.p t66.len t66.cap, .int .i64 0, .slice (some (⟨b, 0, none⟩ : Addr)) 1 1] h25 fun v15 h26 => ∃ t69_1 : Sl, v15 = .slice t69_1.p t69_1.len t69_1.cap ∧ (
 And (hget h26 (a12.add 6) = some (.int .i64 t77)) <|
 And (hget h26 (a11.add 5) = some (.slice t73.p t73.len t73.cap)) <|
 HCalls A P f_slices_Insert_of___int_int #[.slice t73.p t73.len t73.cap, .int .i64 0, .slice (some (⟨b2, 0, none⟩ : Addr)) 1 1] h26 fun v16 h27 => ∃ t79_1 : Sl, v16 = .slice t79_1.p t79_1.len t79_1.cap ∧ (
 At d fun a15 =>
 Store h27 (a15.add 4) (.slice t69_1.p t69_1.len t69_1.cap) fun h28 =>
 At d fun a16 =>
 Store h28 (a16.add 5) (.slice t79_1.p t79_1.len t79_1.cap) fun h29 =>
 K1 () h29))) <|
 New h7 (.cells #[.int .i64 t77] t_int) fun b3 h30 =>
 And (hget h30 (a11.add 5) = some (.slice t73.p t73.len t73.cap)) <|
 And (hget h30 (a10.add 4) = some (.slice t66.p t66.len t66.cap)) <|
 New h30 (.cells #[.pointer t40a] t_p_table_Table) fun b4 h31 =>
 And (hget h31 (a12.add 6) = some (.int .i64 t77)) <|
 And (hget h31 (a11.add 5) = some (.slice t73.p t73.len t73.cap)) <|
 And (hget h31 (a10.add 4) = some (.slice t66.p t66.len t66.cap)) <|
 HCalls A P f_slices_Insert_of____table_Table__table_Table #[.slice t66.p t66.len t66.cap, .int .i64 0, .slice (some (⟨b4, 0, none⟩ : Addr)) 1 1] h31 fun v17 h32 => ∃ t69_2 : Sl, v17 = .slice t69_2.p t69_2.len t69_2.cap ∧ (
 And (hget h32 (a12.add 6) = some (.int .i64 t77)) <|
 And (hget h32 (a11.add 5) = some (.slice t73.p t73.len t73.cap)) <|
 HCalls A P f_slices_Insert_of___int_int #[.slice t73.p t73.len t73.cap, .int .i64 0, .slice (some (⟨b3, 0, none⟩ : Addr)) 1 1] h32 fun v18 h33 => ∃ t79_2 : Sl, v18 = .slice t79_2.p t79_2.len t79_2.cap ∧ (
 At d fun a17 =>
 Store h33 (a17.add 4) (.slice t69_2.p t69_2.len t69_2.cap) fun h34 =>
 At d fun a18 =>
 Store h34 (a18.add 5) (.slice t79_2.p t79_2.len t79_2.cap) fun h35 =>
 K1 () h35)))))))))))) fun K =>
 PIf (d.isNone) (
 K (true, ()) h) (
 At d fun a19 =>
 LoadB h (a19.add 8) fun t16 =>
 K (t16, ()) h)
def a_lsm_DB_Flush : Ann := .seq .none (.seq (.seq (.reg [(17, .one .bool)] [0]) (.cond (.seq .none .none) .none)) (.seq (.seq .none (.seq .none (.cond (.seq .none .none) .none))) (.seq .none (.seq (.seq .none (.cond (.seq .none .none) .none)) (.seq .none (.seq (.seq .none (.cond (.seq .none .none) .none)) (.seq (.reg [] [0, 7]) (.seq .none (.seq (.seq .none (.seq .none (.cond (.seq .none .none) .none))) (.seq .none (.seq (.seq .none (.seq .none (.cond (.seq .none .none) .none))) (.seq (.seq .none (.cond (.seq .none .none) .none)) (.seq .none .none)))))))))))))
theorem e_lsm_DB_Flush (A : Amb) (d : Option Addr) (h : Heap) (R : Value → Heap → Prop) : F_lsm_DB_Flush A d h R = semFun A P f_lsm_DB_Flush a_lsm_DB_Flush [.pointer d] h R := by kernel_rfl
theorem ok_lsm_DB_Flush {A : Amb} {d : Option Addr} {h : Heap} {R : Value → Heap → Prop} (H : F_lsm_DB_Flush A d h R) : HCalls A P f_lsm_DB_Flush #[.pointer d] h R :=
 semFun_sound mixed (e_lsm_DB_Flush A d h R ▸ H)
/-- (*wherry/lsm.DB).Compact -/
def F_lsm_DB_Compact (A : Amb) (d : Option Addr) (h : Heap) (R : Value → Heap → Prop) : Prop :=
 Join (fun (r : Bool × Unit) h1 =>
 PIf r.1 (
 R (.int .i64 30) h1) (
 At d fun a =>
 LoadL h1 (a.add 4) fun t25 =>
 PIf (decide (((t25.len : Nat) : Int) < (2 : Int))) (
 R (.int .i64 0) h1) (
 At d fun a1 =>
 LoadL h1 (a1.add 4) fun t31 =>
 Loop (fun K1 (s : Sl × Int × Unit) h2 =>
 PIf (decide (s.2.1 < ((t31.len : Nat) : Int))) (
 Idx t31.p t31.len s.2.1 fun a2 =>
 LoadP h2 (a2.add (s.2.1.toNat * 1)) fun t36 =>
 HCalls A P f_table_Table_From #[.pointer t36, .string (⟨#[]⟩ : ByteArray)] h2 fun v h3 => ∃ t39 : Value, v = t39 ∧ (
 OneK (oneB t39) <|
 New h3 (.cells #[t39] t_iter_Seq_wherry_api_Pair) fun b h4 =>
 RunK A P (Builtin.append_ #[t_sl_iter_Seq_wherry_api_Pair, t_sl_iter_Seq_wherry_api_Pair] t_sl_iter_Seq_wherry_api_Pair #[.slice s.1.p s.1.len s.1.cap, .slice (some (⟨b, 0, none⟩ : Addr)) 1 1]) h4 fun v1 h5 => ∃ t41 : Sl, v1 = .slice t41.p t41.len t41.cap ∧ (
 K1 ((⟨t41.p, t41.len, t41.cap⟩ : Sl), (IntKind.wrap .i64 (s.2.1 + (1 : Int))), ()) h5))) (
 HCalls A P f_merge_All #[.slice s.1.p s.1.len s.1.cap] h2 fun v2 h6 => ∃ t44 : Value, v2 = t44 ∧ (
 HCalls A P f_merge_Live #[t44] h6 fun v3 h7 => ∃ t45 : Value, v3 = t45 ∧ (
 HCalls A P f_slices_Collect_of_api_Pair #[t45] h7 fun v4 h8 => ∃ t46 : Sl, v4 = .slice t46.p t46.len t46.cap ∧ (
 At d fun a3 =>
 LoadL h8 (a3.add 5) fun t50 =>
 At d fun a4 =>
 Store h8 (a4.add 5) (.slice none 0 0) fun h9 =>
 At d fun a5 =>
 Store h9 (a5.add 4) (.slice none 0 0) fun h10 =>
 Join (fun (s1 : Unit) h11 =>
 HCalls A P f_lsm_DB_told #[.pointer d] h11 fun v5 h12 => ∃ t96 : Int, v5 = .int .i64 t96 ∧ (
 PIf (t96 != (0 : Int)) (
 HCalls A P f_lsm_DB_hurt #[.pointer d, .int .i64 t96] h12 fun v6 h13 => ∃ t101 : Int, v6 = .int .i64 t101 ∧ (
 R (.int .i64 t101) h13)) (
 Loop (fun K3 (s2 : Int × Unit) h14 =>
 PIf (decide (s2.1 < ((t50.len : Nat) : Int))) (
 Idx t50.p t50.len s2.1 fun a6 =>
 LoadI .i64 h14 (a6.add (s2.1.toNat * 1)) fun t107 =>
 At d fun a7 =>
 LoadP h14 a7 fun t111 =>
 HCalls A P f_lsm_file #[.int .i64 t107] h14 fun v7 h15 => ∃ t113 : ByteArray, v7 = .string t113 ∧ (
 And (hget h15 a7 = some (.pointer t111)) <|
 HCalls A P f_box_Box_Delete #[.pointer t111, .string t113] h15 fun v8 h16 => ∃ t114 : Int, v8 = .int .i64 t114 ∧ (
 PIf (t114 != (0 : Int)) (
 HCalls A P f_lsm_DB_hurt #[.pointer d, .int .i64 t114] h16 fun v9 h17 => ∃ t119 : Int, v9 = .int .i64 t119 ∧ (
 R (.int .i64 t119) h17)) (
 K3 ((IntKind.wrap .i64 (s2.1 + (1 : Int))), ()) h16)))) (
 R (.int .i64 0) h14)) (0, ()) h12))) fun K2 =>
 PIf (decide (((t46.len : Nat) : Int) > (0 : Int))) (
 At d fun a8 =>
 LoadI .i64 h10 (a8.add 6) fun t65 =>
 HCalls A P f_lsm_DB_lay #[.pointer d, .int .i64 t65, .slice t46.p t46.len t46.cap] h10 fun v10 h18 => ∃ t67a : Option Addr, ∃ t67b : Int, v10 = .tuple #[.pointer t67a, .int .i64 t67b] ∧ (
 PIf (t67b != (0 : Int)) (
 HCalls A P f_lsm_DB_hurt #[.pointer d, .int .i64 t67b] h18 fun v11 h19 => ∃ t74 : Int, v11 = .int .i64 t74 ∧ (
 R (.int .i64 t74) h19)) (
 New h18 (.cells #[.pointer t67a] t_p_table_Table) fun b1 h20 =>
 At d fun a9 =>
 LoadI .i64 h20 (a9.add 6) fun t82 =>
 New h20 (.cells #[.int .i64 t82] t_int) fun b2 h21 =>
 At d fun a10 =>
 Store h21 (a10.add 4) (.slice (some (⟨b1, 0, none⟩ : Addr)) 1 1) fun h22 =>
 At d fun a11 =>
 Store h22 (a11.add 5) (.slice (some (⟨b2, 0, none⟩ : Addr)) 1 1) fun h23 =>
 At d fun a12 =>
 LoadI .i64 h23 (a12.add 6) fun t91 =>
 At d fun a13 =>
 Store h23 (a13.add 6) (.int .i64 (IntKind.wrap .i64 (t91 + (1 : Int)))) fun h24 =>
 K2 () h24))) (
 K2 () h10)))))) ((⟨none, 0, 0⟩ : Sl), 0, ()) h1))) fun K =>
 PIf (d.isNone) (
 K (true, ()) h) (
 At d fun a14 =>
 LoadB h (a14.add 8) fun t20 =>
 K (t20, ()) h)
def a_lsm_DB_Compact : Ann := .seq .none (.seq (.seq (.reg [(21, .one .bool)] [0]) (.cond (.seq .none .none) .none)) (.seq (.seq .none (.cond (.seq .none .none) .none)) (.seq .none (.seq (.seq .none (.block (.loop [(3, .one .sl), (33, .one (.int .i64))] [0, 31, 32] (.seq .none (.seq (.cond .none .none) (.seq (.block (.seq .none .none)) .none)))))) (.seq .none (.seq .none (.seq .none (.seqJ [] [0, 7] (.seq .none (.cond (.seq .none (.seq (.seq .none (.cond (.seq .none .none) .none)) (.seq .none .none))) .none)) (.seq (.seq .none (.seq .none (.cond (.seq .none .none) .none))) (.seq (.seq .none (.block (.loop [(104, .one (.int .i64))] [0, 102, 103] (.seq .none (.seq (.cond .none .none) (.seq (.block (.seq .none (.seq .none (.seq .none (.cond (.seq .none .none) .none))))) .none)))))) (.seq .none .none)))))))))))
theorem e_lsm_DB_Compact (A : Amb) (d : Option Addr) (h : Heap) (R : Value → Heap → Prop) : F_lsm_DB_Compact A d h R = semFun A P f_lsm_DB_Compact a_lsm_DB_Compact [.pointer d] h R := by kernel_rfl
theorem ok_lsm_DB_Compact {A : Amb} {d : Option Addr} {h : Heap} {R : Value → Heap → Prop} (H : F_lsm_DB_Compact A d h R) : HCalls A P f_lsm_DB_Compact #[.pointer d] h R :=
 semFun_sound mixed (e_lsm_DB_Compact A d h R ▸ H)
/-- (*wherry/box.Box).Append -/
def F_box_Box_Append (A : Amb) (b : Option Addr) (name : ByteArray) (data : ByteArray) (h : Heap) (R : Value → Heap → Prop) : Prop :=
 HCalls A P f_box_Box_off #[.pointer b] h fun v h1 => ∃ t10 : Bool, v = .bool t10 ∧ (
 PIf t10 (
 R (.int .i64 30) h1) (
 HCalls A P f_box_wrong #[.string name] h1 fun v1 h2 => ∃ t13 : Bool, v1 = .bool t13 ∧ (
 PIf t13 (
 R (.int .i64 1) h2) (
 HCalls A P f_box_Box_burn #[.pointer b] h2 fun v2 h3 => ∃ t16 : Bool, v2 = .bool t16 ∧ (
 PIf (!t16) (
 R (.int .i64 30) h3) (
 At b fun a =>
 LoadM h3 a fun t21 =>
 RunK A P (Instr.lookup t_map_string_p_box_file (.map t21) (.string name) false) h3 fun v3 h4 => ∃ t23 : Option Addr, v3 = .pointer t23 ∧ (
 Join (fun (s : (Option Addr) × Unit) h5 =>
 At s.1 fun a1 =>
 LoadS h5 (a1.add 1) fun t37 =>
 Chk (((t37.size + data.size : Nat) : Int) ≤ IntKind.i64.max) <|
 At s.1 fun a2 =>
 Store h5 (a2.add 1) (.string (t37 ++ data)) fun h6 =>
 R (.int .i64 0) h6) fun K =>
 PIf (t23.isNone) (
 New h4 (.cells #[.string (⟨#[]⟩ : ByteArray), .string (⟨#[]⟩ : ByteArray)] t_box_file) fun b1 h7 =>
 At b fun a3 =>
 LoadM h7 a3 fun t31 =>
 RunU A P (Instr.mapUpdate t_map_string_p_box_file (.map t31) (.string name) (.pointer (some (⟨b1, 0, none⟩ : Addr)))) h7 fun h8 => (
 K ((some (⟨b1, 0, none⟩ : Addr)), ()) h8)) (
 K (t23, ()) h4))))))))
def a_box_Box_Append : Ann := .seq .none (.seq (.block (.seq .none (.cond (.seq .none .none) (.seq .none (.cond (.seq .none .none) (.seq .none (.cond (.seq .none .none) .none))))))) (.seq .none (.seqJ [(7, .one .ptr)] [2] (.seq .none (.cond (.seq .none .none) .none)) (.seq .none (.seq .none .none)))))
theorem e_box_Box_Append (A : Amb) (b : Option Addr) (name : ByteArray) (data : ByteArray) (h : Heap) (R : Value → Heap → Prop) : F_box_Box_Append A b name data h R = semFun A P f_box_Box_Append a_box_Box_Append [.pointer b, .string name, .string data] h R := by kernel_rfl
theorem ok_box_Box_Append {A : Amb} {b : Option Addr} {name : ByteArray} {data : ByteArray} {h : Heap} {R : Value → Heap → Prop} (H : F_box_Box_Append A b name data h R) : HCalls A P f_box_Box_Append #[.pointer b, .string name, .string data] h R :=
 semFun_sound mixed (e_box_Box_Append A b name data h R ▸ H)
/-- (*wherry/box.Box).Sync -/
def F_box_Box_Sync (A : Amb) (b : Option Addr) (name : ByteArray) (h : Heap) (R : Value → Heap → Prop) : Prop :=
 HCalls A P f_box_Box_off #[.pointer b] h fun v h1 => ∃ t8 : Bool, v = .bool t8 ∧ (
 PIf t8 (
 R (.int .i64 30) h1) (
 At b fun a =>
 LoadM h1 a fun t13 =>
 RunK A P (Instr.lookup t_map_string_p_box_file (.map t13) (.string name) false) h1 fun v1 h2 => ∃ t15 : Option Addr, v1 = .pointer t15 ∧ (
 PIf (t15.isNone) (
 R (.int .i64 31) h2) (
 HCalls A P f_box_Box_burn #[.pointer b] h2 fun v2 h3 => ∃ t19 : Bool, v2 = .bool t19 ∧ (
 PIf (!t19) (
 R (.int .i64 30) h3) (
 At b fun a1 =>
 LoadM h3 a1 fun t24 =>
 RunK A P (Instr.lookup t_map_string_p_box_file (.map t24) (.string name) false) h3 fun v3 h4 => ∃ t26 : Option Addr, v3 = .pointer t26 ∧ (
 At t26 fun a2 =>
 LoadS h4 a2 fun t32 =>
 At t26 fun a3 =>
 LoadS h4 (a3.add 1) fun t36 =>
 Chk (((t32.size + t36.size : Nat) : Int) ≤ IntKind.i64.max) <|
 At t26 fun a4 =>
 Store h4 a4 (.string (t32 ++ t36)) fun h5 =>
 At t26 fun a5 =>
 Store h5 (a5.add 1) (.string (⟨#[]⟩ : ByteArray)) fun h6 =>
 R (.int .i64 0) h6)))))))
def a_box_Box_Sync : Ann := .seq .none (.seq (.block (.seq .none (.cond (.seq .none .none) (.seq .none (.cond (.seq .none .none) (.seq .none (.cond (.seq .none .none) .none))))))) (.seq .none (.seq .none (.seq .none .none))))
theorem e_box_Box_Sync (A : Amb) (b : Option Addr) (name : ByteArray) (h : Heap) (R : Value → Heap → Prop) : F_box_Box_Sync A b name h R = semFun A P f_box_Box_Sync a_box_Box_Sync [.pointer b, .string name] h R := by kernel_rfl
theorem ok_box_Box_Sync {A : Amb} {b : Option Addr} {name : ByteArray} {h : Heap} {R : Value → Heap → Prop} (H : F_box_Box_Sync A b name h R) : HCalls A P f_box_Box_Sync #[.pointer b, .string name] h R :=
 semFun_sound mixed (e_box_Box_Sync A b name h R ▸ H)
/-- (*wherry/box.Box).Read -/
def F_box_Box_Read (A : Amb) (b : Option Addr) (name : ByteArray) (h : Heap) (R : Value → Heap → Prop) : Prop :=
 HCalls A P f_box_Box_off #[.pointer b] h fun v h1 => ∃ t8 : Bool, v = .bool t8 ∧ (
 PIf t8 (
 R (.tuple #[.string (⟨#[]⟩ : ByteArray), .int .i64 30]) h1) (
 At b fun a =>
 LoadM h1 a fun t12 =>
 RunK A P (Instr.lookup t_map_string_p_box_file (.map t12) (.string name) false) h1 fun v1 h2 => ∃ t14 : Option Addr, v1 = .pointer t14 ∧ (
 PIf (t14.isNone) (
 R (.tuple #[.string (⟨#[]⟩ : ByteArray), .int .i64 31]) h2) (
 At t14 fun a1 =>
 LoadS h2 a1 fun t20 =>
 At t14 fun a2 =>
 LoadS h2 (a2.add 1) fun t24 =>
 Chk (((t20.size + t24.size : Nat) : Int) ≤ IntKind.i64.max) <|
 R (.tuple #[.string (t20 ++ t24), .int .i64 0]) h2))))
def a_box_Box_Read : Ann := .seq .none (.seq (.seq .none (.cond (.seq .none .none) .none)) (.seq .none (.seq (.seq .none (.cond (.seq .none .none) .none)) (.seq .none .none))))
theorem e_box_Box_Read (A : Amb) (b : Option Addr) (name : ByteArray) (h : Heap) (R : Value → Heap → Prop) : F_box_Box_Read A b name h R = semFun A P f_box_Box_Read a_box_Box_Read [.pointer b, .string name] h R := by kernel_rfl
theorem ok_box_Box_Read {A : Amb} {b : Option Addr} {name : ByteArray} {h : Heap} {R : Value → Heap → Prop} (H : F_box_Box_Read A b name h R) : HCalls A P f_box_Box_Read #[.pointer b, .string name] h R :=
 semFun_sound mixed (e_box_Box_Read A b name h R ▸ H)
/-- (*wherry/box.Box).Fuel -/
def F_box_Box_Fuel (A : Amb) (b : Option Addr) (n : Int) (h : Heap) (R : Value → Heap → Prop) : Prop :=
 PIf (!b.isNone) (
 At b fun a =>
 Store h (a.add 1) (.int .i64 (if ((-1) : Int) > n then (-1) else n)) fun h1 =>
 R (.tuple #[]) h1) (
 R (.tuple #[]) h)
def a_box_Box_Fuel : Ann := .seq .none (.cond .none .none)
theorem e_box_Box_Fuel (A : Amb) (b : Option Addr) (n : Int) (h : Heap) (R : Value → Heap → Prop) : F_box_Box_Fuel A b n h R = semFun A P f_box_Box_Fuel a_box_Box_Fuel [.pointer b, .int .i64 n] h R := by kernel_rfl
theorem ok_box_Box_Fuel {A : Amb} {b : Option Addr} {n : Int} {h : Heap} {R : Value → Heap → Prop} (H : F_box_Box_Fuel A b n h R) : HCalls A P f_box_Box_Fuel #[.pointer b, .int .i64 n] h R :=
 semFun_sound mixed (e_box_Box_Fuel A b n h R ▸ H)
/-- wherry/wherryref09.Check -/
def F_wherryref09_Check (A : Amb) (l : Sl) (h : Heap) (R : Value → Heap → Prop) : Prop :=
 PIf (((l.len : Nat) : Int) == (0 : Int)) (
 R (.int .i64 1) h) (
 PIf (decide (((l.len : Nat) : Int) > (64 : Int))) (
 R (.int .i64 2) h) (
 Loop (fun K (s : Int × Unit) h1 =>
 PIf (decide (s.1 < ((l.len : Nat) : Int))) (
 Idx l.p l.len s.1 fun a =>
 LoadS h1 (a.add (s.1.toNat * 3)) fun t20_0 =>
 LoadS h1 ((a.add (s.1.toNat * 3)).add 1) fun t20_1 =>
 LoadB h1 ((a.add (s.1.toNat * 3)).add 2) fun t20_2 =>
 HCalls A P f_wherryref05_Wrong #[.agg #[.string t20_0, .string t20_1, .bool t20_2]] h1 fun v h2 => ∃ t21 : Int, v = .int .i64 t21 ∧ (
 PIf (t21 != (0 : Int)) (
 R (.int .i64 t21) h2) (
 K ((IntKind.wrap .i64 (s.1 + (1 : Int))), ()) h2))) (
 R (.int .i64 0) h1)) (0, ()) h))
def a_wherryref09_Check : Ann := .seq .none (.seq (.seq .none (.cond (.seq .none .none) .none)) (.seq (.seq .none (.cond (.seq .none .none) .none)) (.seq (.seq .none (.block (.loop [(3, .one (.int .i64))] [0] (.seq (.seq .none (.cond .none .none)) (.seq (.block (.seq .none (.seq .none (.cond (.seq .none .none) .none)))) .none))))) (.seq .none .none))))
theorem e_wherryref09_Check (A : Amb) (l : Sl) (h : Heap) (R : Value → Heap → Prop) : F_wherryref09_Check A l h R = semFun A P f_wherryref09_Check a_wherryref09_Check [.slice l.p l.len l.cap] h R := by kernel_rfl
theorem ok_wherryref09_Check {A : Amb} {l : Sl} {h : Heap} {R : Value → Heap → Prop} (H : F_wherryref09_Check A l h R) : HCalls A P f_wherryref09_Check #[.slice l.p l.len l.cap] h R :=
 semFun_sound mixed (e_wherryref09_Check A l h R ▸ H)
/-- (wherry/wherryref09.Map).Write -/
def F_wherryref09_Map_Write (A : Amb) (m_0 : Sl) (l : Sl) (h : Heap) (R : Value → Heap → Prop) : Prop :=
 New h (.cells #[.slice m_0.p m_0.len m_0.cap] t_wherryref09_Map) fun b h1 =>
 New h1 (.cells #[.slice none 0 0] t_wherryref09_Map) fun b1 h2 =>
 Loop (fun K (s : Int × Unit) h3 =>
 PIf (decide (s.1 < ((l.len : Nat) : Int))) (
 LoadL h3 (⟨b, 0, none⟩ : Addr) fun t16_0 =>
 Idx l.p l.len s.1 fun a =>
 LoadS h3 (a.add (s.1.toNat * 3)) fun t21 =>
 HCalls A P f_wherryref09_Map_at #[.agg #[.slice t16_0.p t16_0.len t16_0.cap], .string t21] h3 fun v h4 => ∃ t22a : Int, ∃ t22b : Bool, v = .tuple #[.int .i64 t22a, .bool t22b] ∧ (
 LoadL h4 (⟨b, 0, none⟩ : Addr) fun t26 =>
 Chk ((0 : Int) ≤ t22a ∧ t22a ≤ ((t26.cap : Nat) : Int)) <|
 RunK A P (Builtin.append_ #[t_sl_api_Pair, t_sl_api_Pair] t_sl_api_Pair #[.slice none 0 0, .slice (slOff t26.p t26.cap 0 3) (t22a.toNat - 0) (t26.cap - 0)]) h4 fun v1 h5 => ∃ t29 : Sl, v1 = .slice t29.p t29.len t29.cap ∧ (
 Join (fun (s1 : Sl × Unit) h6 =>
 Join (fun (s2 : Int × Unit) h7 =>
 LoadL h7 (⟨b, 0, none⟩ : Addr) fun t48 =>
 Chk ((0 : Int) ≤ s2.1 ∧ s2.1 ≤ ((t48.len : Nat) : Int)) <|
 RunK A P (Builtin.append_ #[t_sl_api_Pair, t_sl_api_Pair] t_sl_api_Pair #[.slice s1.1.p s1.1.len s1.1.cap, .slice (slOff t48.p t48.cap s2.1.toNat 3) (t48.len - s2.1.toNat) (t48.cap - s2.1.toNat)]) h7 fun v2 h8 => ∃ t51 : Sl, v2 = .slice t51.p t51.len t51.cap ∧ (
 Store h8 (⟨b, 0, none⟩ : Addr) (.slice t51.p t51.len t51.cap) fun h9 =>
 K ((IntKind.wrap .i64 (s.1 + (1 : Int))), ()) h9)) fun K2 =>
 PIf t22b (
 K2 ((IntKind.wrap .i64 (t22a + (1 : Int))), ()) h6) (
 K2 (t22a, ()) h6)) fun K1 =>
 Idx l.p l.len s.1 fun a1 =>
 LoadB h5 ((a1.add (s.1.toNat * 3)).add 2) fun t34 =>
 PIf (!t34) (
 Idx l.p l.len s.1 fun a2 =>
 LoadS h5 (a2.add (s.1.toNat * 3)) fun t40_0 =>
 LoadS h5 ((a2.add (s.1.toNat * 3)).add 1) fun t40_1 =>
 LoadB h5 ((a2.add (s.1.toNat * 3)).add 2) fun t40_2 =>
 New h5 (.cells #[.string t40_0, .string t40_1, .bool t40_2] t_api_Pair) fun b2 h10 =>
 RunK A P (Builtin.append_ #[t_sl_api_Pair, t_sl_api_Pair] t_sl_api_Pair #[.slice t29.p t29.len t29.cap, .slice (some (⟨b2, 0, none⟩ : Addr)) 1 1]) h10 fun v3 h11 => ∃ t42 : Sl, v3 = .slice t42.p t42.len t42.cap ∧ (
 K1 ((⟨t42.p, t42.len, t42.cap⟩ : Sl), ()) h11)) (
 K1 ((⟨t29.p, t29.len, t29.cap⟩ : Sl), ()) h5)))) (
 LoadL h3 (⟨b, 0, none⟩ : Addr) fun t53_0 =>
 Store h3 (⟨b1, 0, none⟩ : Addr) (.slice t53_0.p t53_0.len t53_0.cap) fun h12 =>
 LoadL h12 (⟨b1, 0, none⟩ : Addr) fun res_0 =>
 R (.agg #[.slice res_0.p res_0.len res_0.cap]) h12)) (0, ()) h2
def a_wherryref09_Map_Write : Ann := .seq .none (.seq (.seq .none (.block (.loop [(5, .one (.int .i64))] [1, 2, 4] (.seq (.seq .none (.cond .none .none)) (.seq (.block (.seq .none (.seq .none (.seqJ [(8, .one .sl)] [1, 2, 4, 5, 6, 7] (.seq .none (.cond .none .none)) (.seqJ [(6, .one (.int .i64))] [1, 2, 4, 5, 8] (.seq .none (.cond .none .none)) .none))))) .none))))) (.seq .none .none))
theorem e_wherryref09_Map_Write (A : Amb) (m_0 : Sl) (l : Sl) (h : Heap) (R : Value → Heap → Prop) : F_wherryref09_Map_Write A m_0 l h R = semFun A P f_wherryref09_Map_Write a_wherryref09_Map_Write [.agg #[.slice m_0.p m_0.len m_0.cap], .slice l.p l.len l.cap] h R := by kernel_rfl
theorem ok_wherryref09_Map_Write {A : Amb} {m_0 : Sl} {l : Sl} {h : Heap} {R : Value → Heap → Prop} (H : F_wherryref09_Map_Write A m_0 l h R) : HCalls A P f_wherryref09_Map_Write #[.agg #[.slice m_0.p m_0.len m_0.cap], .slice l.p l.len l.cap] h R :=
 semFun_sound mixed (e_wherryref09_Map_Write A m_0 l h R ▸ H)
/-- (*wherry/box.Box).Crash -/
def F_box_Box_Crash (A : Amb) (b : Option Addr) (keep : Sl) (h : Heap) (R : Value → Heap → Prop) : Prop :=
 PIf (b.isNone) (
 R (.pointer none) h) (
 HCalls A P f_box_New #[] h fun v h1 => ∃ t13 : Option Addr, v = .pointer t13 ∧ (
 At b fun a =>
 LoadM h1 a fun t17 =>
 HCalls A P f_maps_Keys_of_map_string__box_file_string__box_file #[.map t17] h1 fun v1 h2 => ∃ t18 : Value, v1 = t18 ∧ (
 HCalls A P f_slices_Sorted_of_string #[t18] h2 fun v2 h3 => ∃ t19 : Sl, v2 = .slice t19.p t19.len t19.cap ∧ (
 Loop (fun K (s : Int × Int × Unit) h4 =>
 PIf (decide (s.2.1 < ((t19.len : Nat) : Int))) (
 Join (fun (s1 : Int × Unit) h5 =>
 K (s1.1, (IntKind.wrap .i64 (s.2.1 + (1 : Int))), ()) h5) fun K1 =>
 Idx t19.p t19.len s.2.1 fun a1 =>
 LoadS h4 (a1.add (s.2.1.toNat * 1)) fun t24 =>
 At b fun a2 =>
 LoadM h4 a2 fun t28 =>
 RunK A P (Instr.lookup t_map_string_p_box_file (.map t28) (.string t24) false) h4 fun v3 h6 => ∃ t30 : Option Addr, v3 = .pointer t30 ∧ (
 At t30 fun a3 =>
 LoadS h6 a3 fun t34 =>
 Join (fun (s2 : Int × ByteArray × Unit) h7 =>
 PIf (!sEq s2.2.1 (⟨#[]⟩ : ByteArray)) (
 At t13 fun a4 =>
 LoadM h7 a4 fun t69 =>
 New h7 (.cells #[.string s2.2.1, .string (⟨#[]⟩ : ByteArray)] t_box_file) fun b1 h8 =>
 RunU A P (Instr.mapUpdate t_map_string_p_box_file (.map t69) (.string t24) (.pointer (some (⟨b1, 0, none⟩ : Addr)))) h8 fun h9 => (
 K1 (s2.1, ()) h9)) (
 K1 (s2.1, ()) h7)) fun K2 =>
 At t30 fun a5 =>
 LoadS h6 (a5.add 1) fun t38 =>
 PIf (!sEq t38 (⟨#[]⟩ : ByteArray)) (
 Join (fun (s3 : ByteArray × Unit) h10 =>
 K2 ((IntKind.wrap .i64 (s.1 + (1 : Int))), s3.1, ()) h10) fun K3 =>
 PIf (decide (s.1 < ((keep.len : Nat) : Int))) (
 At t30 fun a6 =>
 LoadS h6 (a6.add 1) fun t48 =>
 Idx keep.p keep.len s.1 fun a7 =>
 LoadI .i64 h6 (a7.add (s.1.toNat * 1)) fun t52 =>
 At t30 fun a8 =>
 LoadS h6 (a8.add 1) fun t56 =>
 Chk ((0 : Int) ≤ (if ((if ((t56.size : Int) : Int) < t52 then (t56.size : Int) else t52) : Int) > 0 then (if ((t56.size : Int) : Int) < t52 then (t56.size : Int) else t52) else 0) ∧ (if ((if ((t56.size : Int) : Int) < t52 then (t56.size : Int) else t52) : Int) > 0 then (if ((t56.size : Int) : Int) < t52 then (t56.size : Int) else t52) else 0) ≤ ((t48.size : Nat) : Int)) <|
 Chk (((t34.size + (t48.extract 0 ((if ((if ((t56.size : Int) : Int) < t52 then (t56.size : Int) else t52) : Int) > 0 then (if ((t56.size : Int) : Int) < t52 then (t56.size : Int) else t52) else 0).toNat)).size : Nat) : Int) ≤ IntKind.i64.max) <|
 K3 ((t34 ++ (t48.extract 0 ((if ((if ((t56.size : Int) : Int) < t52 then (t56.size : Int) else t52) : Int) > 0 then (if ((t56.size : Int) : Int) < t52 then (t56.size : Int) else t52) else 0).toNat))), ()) h6) (
 K3 (t34, ()) h6)) (
 K2 (s.1, t34, ()) h6))) (
 At b fun a9 =>
 Store h4 (a9.add 2) (.bool true) fun h11 =>
 R (.pointer t13) h11)) (0, 0, ()) h3))))
def a_box_Box_Crash : Ann := .seq .none (.seq (.seq .none (.cond (.seq .none .none) .none)) (.seq .none (.seq .none (.seq (.seq .none (.block (.loop [(6, .one (.int .i64)), (21, .one (.int .i64))] [0, 1, 5, 19, 20] (.seq .none (.seq (.cond .none .none) (.seq (.blockJ [(6, .one (.int .i64))] [0, 1, 5, 19, 20, 21] (.seq .none (.seq .none (.seq .none (.seqJ [(6, .one (.int .i64)), (10, .one .str)] [0, 1, 5, 8, 19, 20, 21] (.seq .none (.cond (.seqJ [(10, .one .str)] [0, 1, 5, 6, 8, 19, 20, 21] (.seq .none (.cond .none .none)) .none) .none)) (.seq .none (.cond .none .none))))))) .none)))))) (.seq .none (.seq .none .none))))))
theorem e_box_Box_Crash (A : Amb) (b : Option Addr) (keep : Sl) (h : Heap) (R : Value → Heap → Prop) : F_box_Box_Crash A b keep h R = semFun A P f_box_Box_Crash a_box_Box_Crash [.pointer b, .slice keep.p keep.len keep.cap] h R := by kernel_rfl
theorem ok_box_Box_Crash {A : Amb} {b : Option Addr} {keep : Sl} {h : Heap} {R : Value → Heap → Prop} (H : F_box_Box_Crash A b keep h R) : HCalls A P f_box_Box_Crash #[.pointer b, .slice keep.p keep.len keep.cap] h R :=
 semFun_sound mixed (e_box_Box_Crash A b keep h R ▸ H)
/-- wherry/wherrylaw09.told -/
def F_wherrylaw09_told (A : Amb) (d : Option Addr) (m_0 : Sl) (h : Heap) (R : Value → Heap → Prop) : Prop :=
 New h (.cells #[.slice m_0.p m_0.len m_0.cap] t_wherryref09_Map) fun b h1 =>
 HCalls A P f_lsm_DB_Scan #[.pointer d, .string (⟨#[]⟩ : ByteArray), .string (⟨#[]⟩ : ByteArray), .int .i64 1048576] h1 fun v h2 => ∃ t14a : Sl, ∃ t14b : Int, v = .tuple #[.slice t14a.p t14a.len t14a.cap, .int .i64 t14b] ∧ (
 Join (fun (r : Bool × Unit) h3 =>
 PIf r.1 (
 R (.bool false) h3) (
 LoadL h3 (⟨b, 0, none⟩ : Addr) fun t27 =>
 Loop (fun K1 (s : Int × Unit) h4 =>
 PIf (decide (s.1 < ((t27.len : Nat) : Int))) (
 Idx t27.p t27.len s.1 fun a =>
 LoadS h4 (a.add (s.1.toNat * 3)) fun t32_0 =>
 LoadS h4 ((a.add (s.1.toNat * 3)).add 1) fun t32_1 =>
 LoadB h4 ((a.add (s.1.toNat * 3)).add 2) fun t32_2 =>
 New h4 (.cells #[.string (⟨#[]⟩ : ByteArray), .string (⟨#[]⟩ : ByteArray), .bool false] t_api_Pair) fun b1 h5 =>
 Store h5 (⟨b1, 0, none⟩ : Addr) (.string t32_0) fun h6 =>
 Store h6 ((⟨b1, 0, none⟩ : Addr).add 1) (.string t32_1) fun h7 =>
 Store h7 ((⟨b1, 0, none⟩ : Addr).add 2) (.bool t32_2) fun h8 =>
 LoadS h8 (⟨b1, 0, none⟩ : Addr) fun t36 =>
 HCalls A P f_lsm_DB_Get #[.pointer d, .string t36] h8 fun v1 h9 => ∃ t37a : ByteArray, ∃ t37b : Bool, ∃ t37c : Int, v1 = .tuple #[.string t37a, .bool t37b, .int .i64 t37c] ∧ (
 Join (fun (r1 : Bool × Unit) h10 =>
 PIf r1.1 (
 R (.bool false) h10) (
 K1 ((IntKind.wrap .i64 (s.1 + (1 : Int))), ()) h10)) fun K2 =>
 PIf (t37c != (0 : Int)) (
 K2 (true, ()) h9) (
 PIf (!t37b) (
 K2 (true, ()) h9) (
 LoadS h9 ((⟨b1, 0, none⟩ : Addr).add 1) fun t50 =>
 K2 ((!sEq t37a t50), ()) h9)))) (
 R (.bool true) h4)) (0, ()) h3)) fun K =>
 PIf (t14b != (0 : Int)) (
 K (true, ()) h2) (
 LoadL h2 (⟨b, 0, none⟩ : Addr) fun t22 =>
 HCalls A P f_wherryref05_Same #[.slice t14a.p t14a.len t14a.cap, .slice t22.p t22.len t22.cap] h2 fun v2 h11 => ∃ t23 : Bool, v2 = .bool t23 ∧ (
 K ((!t23), ()) h11)))
def a_wherrylaw09_told : Ann := .seq .none (.seq .none (.seq (.seq (.reg [(25, .one .bool)] [0, 3]) (.cond (.seq .none .none) .none)) (.seq (.seq .none (.block (.loop [(29, .one (.int .i64))] [0, 27, 28] (.seq .none (.seq (.cond .none .none) (.seq (.block (.seq .none (.seq .none (.seq (.reg [(52, .one .bool)] [0, 27, 28, 29]) (.cond (.seq .none .none) .none))))) .none)))))) (.seq .none .none))))
theorem e_wherrylaw09_told (A : Amb) (d : Option Addr) (m_0 : Sl) (h : Heap) (R : Value → Heap → Prop) : F_wherrylaw09_told A d m_0 h R = semFun A P f_wherrylaw09_told a_wherrylaw09_told [.pointer d, .agg #[.slice m_0.p m_0.len m_0.cap]] h R := by kernel_rfl
theorem ok_wherrylaw09_told {A : Amb} {d : Option Addr} {m_0 : Sl} {h : Heap} {R : Value → Heap → Prop} (H : F_wherrylaw09_told A d m_0 h R) : HCalls A P f_wherrylaw09_told #[.pointer d, .agg #[.slice m_0.p m_0.len m_0.cap]] h R :=
 semFun_sound mixed (e_wherrylaw09_told A d m_0 h R ▸ H)
/-- wherry/lsm.Check -/
def F_lsm_Check (A : Amb) (l : Sl) (h : Heap) (R : Value → Heap → Prop) : Prop :=
 PIf (((l.len : Nat) : Int) == (0 : Int)) (
 R (.int .i64 1) h) (
 PIf (decide (((l.len : Nat) : Int) > (64 : Int))) (
 R (.int .i64 2) h) (
 Loop (fun K (s : Int × Unit) h1 =>
 PIf (decide (s.1 < ((l.len : Nat) : Int))) (
 Idx l.p l.len s.1 fun a =>
 LoadS h1 (a.add (s.1.toNat * 3)) fun t16_0 =>
 LoadS h1 ((a.add (s.1.toNat * 3)).add 1) fun t16_1 =>
 LoadB h1 ((a.add (s.1.toNat * 3)).add 2) fun t16_2 =>
 New h1 (.cells #[.string (⟨#[]⟩ : ByteArray), .string (⟨#[]⟩ : ByteArray), .bool false] t_api_Pair) fun b h2 =>
 Store h2 (⟨b, 0, none⟩ : Addr) (.string t16_0) fun h3 =>
 Store h3 ((⟨b, 0, none⟩ : Addr).add 1) (.string t16_1) fun h4 =>
 Store h4 ((⟨b, 0, none⟩ : Addr).add 2) (.bool t16_2) fun h5 =>
 Join (fun (r : Bool × Unit) h6 =>
 PIf r.1 (
 R (.int .i64 1) h6) (
 Join (fun (r1 : Bool × Unit) h7 =>
 PIf r1.1 (
 R (.int .i64 2) h7) (
 K ((IntKind.wrap .i64 (s.1 + (1 : Int))), ()) h7)) fun K2 =>
 LoadS h6 (⟨b, 0, none⟩ : Addr) fun t32 =>
 PIf (decide ((t32.size : Int) > (64 : Int))) (
 K2 (true, ()) h6) (
 LoadS h6 ((⟨b, 0, none⟩ : Addr).add 1) fun t37 =>
 K2 ((decide ((t37.size : Int) > (8192 : Int))), ()) h6))) fun K1 =>
 LoadS h5 (⟨b, 0, none⟩ : Addr) fun t19 =>
 PIf (sEq t19 (⟨#[]⟩ : ByteArray)) (
 K1 (true, ()) h5) (
 LoadB h5 ((⟨b, 0, none⟩ : Addr).add 2) fun t23 =>
 PIf t23 (
 LoadS h5 ((⟨b, 0, none⟩ : Addr).add 1) fun t26 =>
 K1 ((!sEq t26 (⟨#[]⟩ : ByteArray)), ()) h5) (
 K1 (false, ()) h5))) (
 R (.int .i64 0) h1)) (0, ()) h))
def a_lsm_Check : Ann := .seq .none (.seq (.seq .none (.cond (.seq .none .none) .none)) (.seq (.seq .none (.cond (.seq .none .none) .none)) (.seq (.seq .none (.block (.loop [(13, .one (.int .i64))] [11, 12] (.seq .none (.seq (.cond .none .none) (.seq (.block (.seq .none (.block (.seq (.reg [(17, .one .bool)] [4, 11, 12, 13]) (.cond (.seq .none .none) (.seq (.reg [(30, .one .bool)] [11, 12, 13]) (.cond (.seq .none .none) .none))))))) .none)))))) (.seq .none .none))))
theorem e_lsm_Check (A : Amb) (l : Sl) (h : Heap) (R : Value → Heap → Prop) : F_lsm_Check A l h R = semFun A P f_lsm_Check a_lsm_Check [.slice l.p l.len l.cap] h R := by kernel_rfl
theorem ok_lsm_Check {A : Amb} {l : Sl} {h : Heap} {R : Value → Heap → Prop} (H : F_lsm_Check A l h R) : HCalls A P f_lsm_Check #[.slice l.p l.len l.cap] h R :=
 semFun_sound mixed (e_lsm_Check A l h R ▸ H)
/-- wherry/wal.Open -/
def F_wal_Open (A : Amb) (b : Option Addr) (name : ByteArray) (h : Heap) (R : Value → Heap → Prop) : Prop :=
 PIf (b.isNone) (
 R (.tuple #[.pointer none, .slice none 0 0, .int .i64 30]) h) (
 Join (fun (r : Bool × Unit) h1 =>
 PIf r.1 (
 R (.tuple #[.pointer none, .slice none 0 0, .int .i64 1]) h1) (
 HCalls A P f_wal_segments #[.pointer b, .string name] h1 fun v h2 => ∃ t29a : Sl, ∃ t29b : Int, v = .tuple #[.slice t29a.p t29a.len t29a.cap, .int .i64 t29b] ∧ (
 PIf (t29b != (0 : Int)) (
 R (.tuple #[.pointer none, .slice none 0 0, .int .i64 t29b]) h2) (
 Loop (fun K1 (s : Sl × Int × Int × Unit) h3 =>
 PIf (decide (s.2.2.1 < ((t29a.len : Nat) : Int))) (
 Idx t29a.p t29a.len s.2.2.1 fun a =>
 LoadI .i64 h3 (a.add (s.2.2.1.toNat * 1)) fun t40 =>
 HCalls A P f_wal_file #[.string name, .int .i64 t40] h3 fun v1 h4 => ∃ t45 : ByteArray, v1 = .string t45 ∧ (
 HCalls A P f_box_Box_Read #[.pointer b, .string t45] h4 fun v2 h5 => ∃ t46a : ByteArray, ∃ t46b : Int, v2 = .tuple #[.string t46a, .int .i64 t46b] ∧ (
 PIf (t46b != (0 : Int)) (
 R (.tuple #[.pointer none, .slice none 0 0, .int .i64 t46b]) h5) (
 HCalls A P f_frame_Scan #[.string t46a] h5 fun v3 h6 => ∃ t54a : Sl, ∃ t54b : Int, v3 = .tuple #[.slice t54a.p t54a.len t54a.cap, .int .i64 t54b] ∧ (
 RunK A P (Builtin.append_ #[t_sl_string, t_sl_string] t_sl_string #[.slice s.1.p s.1.len s.1.cap, .slice t54a.p t54a.len t54a.cap]) h6 fun v4 h7 => ∃ t59 : Sl, v4 = .slice t59.p t59.len t59.cap ∧ (
 K1 ((⟨t59.p, t59.len, t59.cap⟩ : Sl), t40, (IntKind.wrap .i64 (s.2.2.1 + (1 : Int))), ()) h7)))))) (
 PIf (s.2.1 == (99999999 : Int)) (
 R (.tuple #[.pointer none, .slice none 0 0, .int .i64 2]) h3) (
 New h3 (.cells #[.pointer b, .string name, .int .i64 (IntKind.wrap .i64 (s.2.1 + (1 : Int))), .bool false] t_wal_Log) fun b1 h8 =>
 R (.tuple #[.pointer (some (⟨b1, 0, none⟩ : Addr)), .slice s.1.p s.1.len s.1.cap, .int .i64 0]) h8))) ((⟨none, 0, 0⟩ : Sl), 0, 0, ()) h2)))) fun K =>
 PIf (sEq name (⟨#[]⟩ : ByteArray)) (
 K (true, ()) h) (
 K ((decide ((name.size : Int) > (8 : Int))), ()) h))
def a_wal_Open : Ann := .seq .none (.seq (.seq .none (.cond (.seq .none .none) .none)) (.seq (.seq (.reg [(25, .one .bool)] [0, 1]) (.cond (.seq .none .none) .none)) (.seq .none (.seq (.seq .none (.cond (.seq .none .none) .none)) (.seq .none (.seq .none (.seq (.seq .none (.block (.loop [(9, .one .sl), (10, .one (.int .i64)), (37, .one (.int .i64))] [0, 1, 35, 36] (.seq .none (.seq (.cond .none .none) (.seq (.block (.seq .none (.seq .none (.seq (.seq .none (.cond (.seq .none .none) .none)) (.seq .none (.seq .none .none)))))) .none)))))) (.seq (.seq .none (.cond (.seq .none .none) .none)) (.seq .none .none)))))))))
theorem e_wal_Open (A : Amb) (b : Option Addr) (name : ByteArray) (h : Heap) (R : Value → Heap → Prop) : F_wal_Open A b name h R = semFun A P f_wal_Open a_wal_Open [.pointer b, .string name] h R := by kernel_rfl
theorem ok_wal_Open {A : Amb} {b : Option Addr} {name : ByteArray} {h : Heap} {R : Value → Heap → Prop} (H : F_wal_Open A b name h R) : HCalls A P f_wal_Open #[.pointer b, .string name] h R :=
 semFun_sound mixed (e_wal_Open A b name h R ▸ H)
/-- wherry/mem.New -/
def F_mem_New (A : Amb) (h : Heap) (R : Value → Heap → Prop) : Prop :=
 New h (.cells #[.string (⟨#[]⟩ : ByteArray), .string (⟨#[]⟩ : ByteArray), .bool false, .pointer none, .pointer none, .pointer none, .pointer none, .pointer none, .pointer none, .pointer none, .pointer none, .pointer none, .pointer none, .pointer none, .pointer none, .int .i64 0, .int .i64 0] t_mem_Table) fun b h1 =>
 R (.pointer (some (⟨b, 0, none⟩ : Addr))) h1
def a_mem_New : Ann := .seq .none (.seq .none .none)
theorem e_mem_New (A : Amb) (h : Heap) (R : Value → Heap → Prop) : F_mem_New A h R = semFun A P f_mem_New a_mem_New [] h R := by kernel_rfl
theorem ok_mem_New {A : Amb} {h : Heap} {R : Value → Heap → Prop} (H : F_mem_New A h R) : HCalls A P f_mem_New #[] h R :=
 semFun_sound mixed (e_mem_New A h R ▸ H)
/-- wherry/vary.Read -/
def F_vary_Read (A : Amb) (s : ByteArray) (h : Heap) (R : Value → Heap → Prop) : Prop :=
 New h (.cells #[.string s, .bool false] t_vary_Reader) fun b h1 =>
 R (.pointer (some (⟨b, 0, none⟩ : Addr))) h1
def a_vary_Read : Ann := .seq .none (.seq .none .none)
theorem e_vary_Read (A : Amb) (s : ByteArray) (h : Heap) (R : Value → Heap → Prop) : F_vary_Read A s h R = semFun A P f_vary_Read a_vary_Read [.string s] h R := by kernel_rfl
theorem ok_vary_Read {A : Amb} {s : ByteArray} {h : Heap} {R : Value → Heap → Prop} (H : F_vary_Read A s h R) : HCalls A P f_vary_Read #[.string s] h R :=
 semFun_sound mixed (e_vary_Read A s h R ▸ H)
/-- (*wherry/vary.Reader).Int -/
def F_vary_Reader_Int (A : Amb) (r : Option Addr) (most : Int) (h : Heap) (R : Value → Heap → Prop) : Prop :=
 HCalls A P f_vary_Reader_Num #[.pointer r] h fun v h1 => ∃ t7 : Int, v = .int .u64 t7 ∧ (
 Join (fun (r1 : Bool × Unit) h2 =>
 PIf r1.1 (
 R (.int .i64 0) h2) (
 Join (fun (r2 : Bool × Unit) h3 =>
 PIf r2.1 (
 At r fun a =>
 Store h3 a (.string (⟨#[]⟩ : ByteArray)) fun h4 =>
 At r fun a1 =>
 Store h4 (a1.add 1) (.bool true) fun h5 =>
 R (.int .i64 0) h5) (
 R (.int .i64 (IntKind.wrap .i64 t7)) h3)) fun K1 =>
 PIf (decide (most < (0 : Int))) (
 K1 (true, ()) h2) (
 K1 ((decide (t7 > (IntKind.wrap .u64 most))), ()) h2))) fun K =>
 PIf (r.isNone) (
 K (true, ()) h1) (
 At r fun a2 =>
 LoadB h1 (a2.add 1) fun t14 =>
 K (t14, ()) h1))
def a_vary_Reader_Int : Ann := .seq .none (.seq .none (.seq (.seq (.reg [(15, .one .bool)] [0, 1, 5]) (.cond (.seq .none .none) .none)) (.seq (.seq (.reg [(23, .one .bool)] [0, 5]) (.cond (.seq .none (.seq .none .none)) .none)) (.seq .none .none))))
theorem e_vary_Reader_Int (A : Amb) (r : Option Addr) (most : Int) (h : Heap) (R : Value → Heap → Prop) : F_vary_Reader_Int A r most h R = semFun A P f_vary_Reader_Int a_vary_Reader_Int [.pointer r, .int .i64 most] h R := by kernel_rfl
theorem ok_vary_Reader_Int {A : Amb} {r : Option Addr} {most : Int} {h : Heap} {R : Value → Heap → Prop} (H : F_vary_Reader_Int A r most h R) : HCalls A P f_vary_Reader_Int #[.pointer r, .int .i64 most] h R :=
 semFun_sound mixed (e_vary_Reader_Int A r most h R ▸ H)
/-- (*wherry/vary.Reader).End -/
def F_vary_Reader_End (A : Amb) (r : Option Addr) (h : Heap) (R : Value → Heap → Prop) : Prop :=
 PIf (!r.isNone) (
 At r fun a =>
 LoadB h (a.add 1) fun t9 =>
 PIf (!t9) (
 At r fun a1 =>
 LoadS h a1 fun t16 =>
 R (.bool (sEq t16 (⟨#[]⟩ : ByteArray))) h) (
 R (.bool false) h)) (
 R (.bool false) h)
def a_vary_Reader_End : Ann := .seq .none (.seq .none .none)
theorem e_vary_Reader_End (A : Amb) (r : Option Addr) (h : Heap) (R : Value → Heap → Prop) : F_vary_Reader_End A r h R = semFun A P f_vary_Reader_End a_vary_Reader_End [.pointer r] h R := by kernel_rfl
theorem ok_vary_Reader_End {A : Amb} {r : Option Addr} {h : Heap} {R : Value → Heap → Prop} (H : F_vary_Reader_End A r h R) : HCalls A P f_vary_Reader_End #[.pointer r] h R :=
 semFun_sound mixed (e_vary_Reader_End A r h R ▸ H)
/-- wherry/lsm.file -/
def F_lsm_file (A : Amb) (n : Int) (h : Heap) (R : Value → Heap → Prop) : Prop :=
 HCalls A P f_strconv_Itoa #[.int .i64 n] h fun v h1 => ∃ t4 : ByteArray, v = .string t4 ∧ (
 Chk ((((⟨#[116]⟩ : ByteArray).size + t4.size : Nat) : Int) ≤ IntKind.i64.max) <|
 R (.string ((⟨#[116]⟩ : ByteArray) ++ t4)) h1)
def a_lsm_file : Ann := .seq .none (.seq .none .none)
theorem e_lsm_file (A : Amb) (n : Int) (h : Heap) (R : Value → Heap → Prop) : F_lsm_file A n h R = semFun A P f_lsm_file a_lsm_file [.int .i64 n] h R := by kernel_rfl
theorem ok_lsm_file {A : Amb} {n : Int} {h : Heap} {R : Value → Heap → Prop} (H : F_lsm_file A n h R) : HCalls A P f_lsm_file #[.int .i64 n] h R :=
 semFun_sound mixed (e_lsm_file A n h R ▸ H)
/-- wherry/table.Open -/
def F_table_Open (A : Amb) (s : ByteArray) (h : Heap) (R : Value → Heap → Prop) : Prop :=
 HCalls A P f_frame_Scan #[.string s] h fun v h1 => ∃ t19a : Sl, ∃ t19b : Int, v = .tuple #[.slice t19a.p t19a.len t19a.cap, .int .i64 t19b] ∧ (
 Join (fun (r : Bool × Unit) h2 =>
 PIf r.1 (
 R (.tuple #[.pointer none, .int .i64 60]) h2) (
 Chk ((0 : Int) ≤ (IntKind.wrap .i64 (((t19a.len : Nat) : Int) - (1 : Int))) ∧ (IntKind.wrap .i64 (((t19a.len : Nat) : Int) - (1 : Int))) ≤ ((t19a.cap : Nat) : Int)) <|
 Idx t19a.p t19a.len (IntKind.wrap .i64 (((t19a.len : Nat) : Int) - (1 : Int))) fun a =>
 LoadS h2 (a.add ((IntKind.wrap .i64 (((t19a.len : Nat) : Int) - (1 : Int))).toNat * 1)) fun t41 =>
 HCalls A P f_vary_Read #[.string t41] h2 fun v1 h3 => ∃ t42 : Option Addr, v1 = .pointer t42 ∧ (
 New h3 (.cells #[.slice none 0 0, .slice (slOff t19a.p t19a.cap 0 1) (((IntKind.wrap .i64 (((t19a.len : Nat) : Int) - (1 : Int))).toNat) - 0) (t19a.cap - 0), .string (⟨#[]⟩ : ByteArray), .int .i64 0] t_table_Table) fun b h4 =>
 HCalls A P f_vary_Reader_Int #[.pointer t42, .int .i64 (((((IntKind.wrap .i64 (((t19a.len : Nat) : Int) - (1 : Int))).toNat) - 0) : Nat) : Int)] h4 fun v2 h5 => ∃ t49 : Int, v2 = .int .i64 t49 ∧ (
 PIf (t49 != (((((IntKind.wrap .i64 (((t19a.len : Nat) : Int) - (1 : Int))).toNat) - 0) : Nat) : Int)) (
 R (.tuple #[.pointer none, .int .i64 60]) h5) (
 Loop (fun K1 (s1 : Int × Unit) h6 =>
 PIf (decide (s1.1 < (((((IntKind.wrap .i64 (((t19a.len : Nat) : Int) - (1 : Int))).toNat) - 0) : Nat) : Int))) (
 LoadL h6 (⟨b, 0, none⟩ : Addr) fun t61 =>
 HCalls A P f_vary_Reader_Text #[.pointer t42] h6 fun v3 h7 => ∃ t63 : ByteArray, v3 = .string t63 ∧ (
 And (hget h7 (⟨b, 0, none⟩ : Addr) = some (.slice t61.p t61.len t61.cap)) <|
 New h7 (.cells #[.string t63] t_string) fun b1 h8 =>
 And (hget h8 (⟨b, 0, none⟩ : Addr) = some (.slice t61.p t61.len t61.cap)) <|
 RunK A P (Builtin.append_ #[t_sl_string, t_sl_string] t_sl_string #[.slice t61.p t61.len t61.cap, .slice (some (⟨b1, 0, none⟩ : Addr)) 1 1]) h8 fun v4 h9 => ∃ t65 : Sl, v4 = .slice t65.p t65.len t65.cap ∧ (
 Store h9 (⟨b, 0, none⟩ : Addr) (.slice t65.p t65.len t65.cap) fun h10 =>
 K1 ((IntKind.wrap .i64 (s1.1 + (1 : Int))), ()) h10))) (
 HCalls A P f_vary_Reader_Int #[.pointer t42, .int .i64 (IntKind.wrap .i64 ((((((IntKind.wrap .i64 (((t19a.len : Nat) : Int) - (1 : Int))).toNat) - 0) : Nat) : Int) * (8 : Int)))] h6 fun v5 h11 => ∃ t74 : Int, v5 = .int .i64 t74 ∧ (
 Store h11 ((⟨b, 0, none⟩ : Addr).add 3) (.int .i64 t74) fun h12 =>
 HCalls A P f_vary_Reader_Text #[.pointer t42] h12 fun v6 h13 => ∃ t79 : ByteArray, v6 = .string t79 ∧ (
 Store h13 ((⟨b, 0, none⟩ : Addr).add 2) (.string t79) fun h14 =>
 Join (fun (r1 : Bool × Unit) h15 =>
 PIf r1.1 (
 R (.tuple #[.pointer none, .int .i64 60]) h15) (
 Loop (fun K3 (s2 : ByteArray × Int × Int × Unit) h16 =>
 PIf (decide (s2.2.2.1 < (((((IntKind.wrap .i64 (((t19a.len : Nat) : Int) - (1 : Int))).toNat) - 0) : Nat) : Int))) (
 Idx (slOff t19a.p t19a.cap 0 1) (((IntKind.wrap .i64 (((t19a.len : Nat) : Int) - (1 : Int))).toNat) - 0) s2.2.2.1 fun a1 =>
 LoadS h16 (a1.add (s2.2.2.1.toNat * 1)) fun t106 =>
 HCalls A P f_table_pairs #[.string t106] h16 fun v7 h17 => ∃ t109a : Sl, ∃ t109b : Bool, v7 = .tuple #[.slice t109a.p t109a.len t109a.cap, .bool t109b] ∧ (
 Join (fun (r2 : Bool × Unit) h18 =>
 PIf r2.1 (
 R (.tuple #[.pointer none, .int .i64 60]) h18) (
 Loop (fun K5 (s3 : ByteArray × Int × Int × Unit) h19 =>
 PIf (decide (s3.2.2.1 < ((t109a.len : Nat) : Int))) (
 Idx t109a.p t109a.len s3.2.2.1 fun a2 =>
 LoadS h19 (a2.add (s3.2.2.1.toNat * 3)) fun t155_0 =>
 LoadS h19 ((a2.add (s3.2.2.1.toNat * 3)).add 1) fun t155_1 =>
 LoadB h19 ((a2.add (s3.2.2.1.toNat * 3)).add 2) fun t155_2 =>
 New h19 (.cells #[.string (⟨#[]⟩ : ByteArray), .string (⟨#[]⟩ : ByteArray), .bool false] t_api_Pair) fun b2 h20 =>
 Store h20 (⟨b2, 0, none⟩ : Addr) (.string t155_0) fun h21 =>
 Store h21 ((⟨b2, 0, none⟩ : Addr).add 1) (.string t155_1) fun h22 =>
 Store h22 ((⟨b2, 0, none⟩ : Addr).add 2) (.bool t155_2) fun h23 =>
 Join (fun (r3 : Bool × Unit) h24 =>
 PIf r3.1 (
 R (.tuple #[.pointer none, .int .i64 60]) h24) (
 LoadS h24 (⟨b2, 0, none⟩ : Addr) fun t171 =>
 K5 (t171, (IntKind.wrap .i64 (s3.2.1 + (1 : Int))), (IntKind.wrap .i64 (s3.2.2.1 + (1 : Int))), ()) h24)) fun K6 =>
 LoadS h23 (⟨b2, 0, none⟩ : Addr) fun t157 =>
 PIf (sLt t157 s3.1 || sEq t157 s3.1) (
 K6 (true, ()) h23) (
 LoadS h23 ((⟨b, 0, none⟩ : Addr).add 2) fun t164 =>
 LoadS h23 (⟨b2, 0, none⟩ : Addr) fun t166 =>
 HCalls A P f_bloom_Has #[.string t164, .string t166] h23 fun v8 h25 => ∃ t167 : Bool, v8 = .bool t167 ∧ (
 K6 ((!t167), ()) h25))) (
 K3 (s3.1, s3.2.1, (IntKind.wrap .i64 (s2.2.2.1 + (1 : Int))), ()) h19)) (s2.1, s2.2.1, 0, ()) h18)) fun K4 =>
 PIf (!t109b) (
 K4 (true, ()) h17) (
 PIf (((t109a.len : Nat) : Int) == (0 : Int)) (
 K4 (true, ()) h17) (
 PIf (decide (((t109a.len : Nat) : Int) > (8 : Int))) (
 K4 (true, ()) h17) (
 PIf (decide ((IntKind.wrap .i64 (s2.2.2.1 + (1 : Int))) < (((((IntKind.wrap .i64 (((t19a.len : Nat) : Int) - (1 : Int))).toNat) - 0) : Nat) : Int))) (
 PIf (((t109a.len : Nat) : Int) != (8 : Int)) (
 K4 (true, ()) h17) (
 Idx t109a.p t109a.len 0 fun a3 =>
 LoadS h17 (a3.add ((0 : Int).toNat * 3)) fun t140 =>
 LoadL h17 (⟨b, 0, none⟩ : Addr) fun t144 =>
 Idx t144.p t144.len s2.2.2.1 fun a4 =>
 LoadS h17 (a4.add (s2.2.2.1.toNat * 1)) fun t147 =>
 K4 ((!sEq t140 t147), ()) h17)) (
 Idx t109a.p t109a.len 0 fun a5 =>
 LoadS h17 (a5.add ((0 : Int).toNat * 3)) fun t140_1 =>
 LoadL h17 (⟨b, 0, none⟩ : Addr) fun t144_1 =>
 Idx t144_1.p t144_1.len s2.2.2.1 fun a6 =>
 LoadS h17 (a6.add (s2.2.2.1.toNat * 1)) fun t147_1 =>
 K4 ((!sEq t140_1 t147_1), ()) h17)))))) (
 LoadI .i64 h16 ((⟨b, 0, none⟩ : Addr).add 3) fun t180 =>
 PIf (s2.2.1 != t180) (
 R (.tuple #[.pointer none, .int .i64 60]) h16) (
 R (.tuple #[.pointer (some (⟨b, 0, none⟩ : Addr)), .int .i64 0]) h16))) ((⟨#[]⟩ : ByteArray), 0, 0, ()) h15)) fun K2 =>
 HCalls A P f_vary_Reader_End #[.pointer t42] h14 fun v9 h26 => ∃ t83 : Bool, v9 = .bool t83 ∧ (
 PIf (!t83) (
 K2 (true, ()) h26) (
 LoadS h26 ((⟨b, 0, none⟩ : Addr).add 2) fun t89 =>
 PIf (sEq t89 (⟨#[]⟩ : ByteArray)) (
 K2 (true, ()) h26) (
 LoadS h26 ((⟨b, 0, none⟩ : Addr).add 2) fun t96 =>
 K2 ((decide ((t96.size : Int) > (8192 : Int))), ()) h26))))))) (0, ()) h5))))) fun K =>
 PIf (t19b != (s.size : Int)) (
 K (true, ()) h1) (
 K ((decide (((t19a.len : Nat) : Int) < (2 : Int))), ()) h1))
def a_table_Open : Ann := .seq .none (.seq .none (.seq (.seq (.reg [(30, .one .bool)] [4]) (.cond (.seq .none .none) .none)) (.seq .none (.seq .none (.seq (.seq .none (.cond (.seq .none .none) .none)) (.seq (.seq .none (.block (.loop [(55, .one (.int .i64))] [6, 7, 8, 54] (.seq .none (.seq (.cond .none .none) (.seq (.block .none) .none)))))) (.seq .none (.seq .none (.seq (.seq (.reg [(99, .one .bool)] [6, 8]) (.cond (.seq .none .none) .none)) (.seq .none (.seq (.seq .none (.block (.loop [(9, .one .str), (10, .one (.int .i64)), (102, .one (.int .i64))] [6, 8, 100, 101] (.seq .none (.seq (.cond .none .none) (.seq (.block (.seq .none (.seq .none (.seq (.seq (.reg [(149, .one .bool)] [6, 8, 9, 10, 13, 100, 101, 102]) (.cond (.seq .none .none) .none)) (.seq .none (.block (.loop [(9, .one .str), (10, .one (.int .i64)), (152, .one (.int .i64))] [6, 8, 100, 101, 102, 150, 151] (.seq .none (.seq (.cond .none .none) (.seq (.block (.seq .none (.seq (.seq (.reg [(169, .one .bool)] [6, 8, 10, 16, 100, 101, 102, 150, 151, 152]) (.cond (.seq .none .none) .none)) (.seq .none .none)))) .none)))))))))) .none)))))) (.seq (.seq .none (.cond (.seq .none .none) .none)) (.seq .none .none)))))))))))))
theorem e_table_Open (A : Amb) (s : ByteArray) (h : Heap) (R : Value → Heap → Prop) : F_table_Open A s h R = semFun A P f_table_Open a_table_Open [.string s] h R := by kernel_rfl
theorem ok_table_Open {A : Amb} {s : ByteArray} {h : Heap} {R : Value → Heap → Prop} (H : F_table_Open A s h R) : HCalls A P f_table_Open #[.string s] h R :=
 semFun_sound mixed (e_table_Open A s h R ▸ H)
/-- (*wherry/wal.Log).Segment -/
def F_wal_Log_Segment (A : Amb) (l : Option Addr) (h : Heap) (R : Value → Heap → Prop) : Prop :=
 PIf (l.isNone) (
 R (.int .i64 0) h) (
 At l fun a =>
 LoadI .i64 h (a.add 2) fun t8 =>
 R (.int .i64 t8) h)
def a_wal_Log_Segment : Ann := .seq .none (.seq (.seq .none (.cond (.seq .none .none) .none)) (.seq .none .none))
theorem e_wal_Log_Segment (A : Amb) (l : Option Addr) (h : Heap) (R : Value → Heap → Prop) : F_wal_Log_Segment A l h R = semFun A P f_wal_Log_Segment a_wal_Log_Segment [.pointer l] h R := by kernel_rfl
theorem ok_wal_Log_Segment {A : Amb} {l : Option Addr} {h : Heap} {R : Value → Heap → Prop} (H : F_wal_Log_Segment A l h R) : HCalls A P f_wal_Log_Segment #[.pointer l] h R :=
 semFun_sound mixed (e_wal_Log_Segment A l h R ▸ H)
/-- (*wherry/wal.Log).Rotate -/
def F_wal_Log_Rotate (A : Amb) (l : Option Addr) (h : Heap) (R : Value → Heap → Prop) : Prop :=
 PIf (l.isNone) (
 R (.tuple #[.int .i64 0, .int .i64 1]) h) (
 At l fun a =>
 LoadI .i64 h (a.add 2) fun t10 =>
 PIf (t10 == (99999999 : Int)) (
 R (.tuple #[.int .i64 0, .int .i64 2]) h) (
 HCalls A P f_wal_Log_Sync #[.pointer l] h fun v h1 => ∃ t13 : Int, v = .int .i64 t13 ∧ (
 PIf (t13 != (0 : Int)) (
 R (.tuple #[.int .i64 0, .int .i64 t13]) h1) (
 At l fun a1 =>
 LoadI .i64 h1 (a1.add 2) fun t20 =>
 At l fun a2 =>
 Store h1 (a2.add 2) (.int .i64 (IntKind.wrap .i64 (t20 + (1 : Int)))) fun h2 =>
 At l fun a3 =>
 Store h2 (a3.add 3) (.bool false) fun h3 =>
 At l fun a4 =>
 LoadI .i64 h3 (a4.add 2) fun t30 =>
 R (.tuple #[.int .i64 (IntKind.wrap .i64 (t30 - (1 : Int))), .int .i64 0]) h3))))
def a_wal_Log_Rotate : Ann := .seq .none (.seq (.seq .none (.cond (.seq .none .none) .none)) (.seq (.seq .none (.cond (.seq .none .none) .none)) (.seq (.seq .none (.seq .none (.cond (.seq .none .none) .none))) (.seq .none (.seq .none (.seq .none .none))))))
theorem e_wal_Log_Rotate (A : Amb) (l : Option Addr) (h : Heap) (R : Value → Heap → Prop) : F_wal_Log_Rotate A l h R = semFun A P f_wal_Log_Rotate a_wal_Log_Rotate [.pointer l] h R := by kernel_rfl
theorem ok_wal_Log_Rotate {A : Amb} {l : Option Addr} {h : Heap} {R : Value → Heap → Prop} (H : F_wal_Log_Rotate A l h R) : HCalls A P f_wal_Log_Rotate #[.pointer l] h R :=
 semFun_sound mixed (e_wal_Log_Rotate A l h R ▸ H)
/-- wherry/lsm.changes -/
def F_lsm_changes (A : Amb) (s : ByteArray) (h : Heap) (R : Value → Heap → Prop) : Prop :=
 HCalls A P f_vary_Read #[.string s] h fun v h1 => ∃ t12 : Option Addr, v = .pointer t12 ∧ (
 HCalls A P f_vary_Reader_Int #[.pointer t12, .int .i64 99999999] h1 fun v1 h2 => ∃ t14 : Int, v1 = .int .i64 t14 ∧ (
 HCalls A P f_vary_Reader_Int #[.pointer t12, .int .i64 64] h2 fun v2 h3 => ∃ t16 : Int, v2 = .int .i64 t16 ∧ (
 Loop (fun K (s1 : Sl × Int × Unit) h4 =>
 PIf (decide (s1.2.1 < t16)) (
 HCalls A P f_vary_Reader_Text #[.pointer t12] h4 fun v3 h5 => ∃ t21 : ByteArray, v3 = .string t21 ∧ (
 New h5 (.cells #[.string (⟨#[]⟩ : ByteArray), .string (⟨#[]⟩ : ByteArray), .bool false] t_api_Pair) fun b h6 =>
 Store h6 (⟨b, 0, none⟩ : Addr) (.string t21) fun h7 =>
 Store h7 ((⟨b, 0, none⟩ : Addr).add 1) (.string (⟨#[]⟩ : ByteArray)) fun h8 =>
 Store h8 ((⟨b, 0, none⟩ : Addr).add 2) (.bool false) fun h9 =>
 HCalls A P f_vary_Reader_Int #[.pointer t12, .int .i64 8193] h9 fun v4 h10 => ∃ t24 : Int, v4 = .int .i64 t24 ∧ (
 Store h10 ((⟨b, 0, none⟩ : Addr).add 2) (.bool (t24 == (0 : Int))) fun h11 =>
 HCalls A P f_vary_Reader_Take #[.pointer t12, .int .i64 (if ((IntKind.wrap .i64 (t24 - (1 : Int))) : Int) > 0 then (IntKind.wrap .i64 (t24 - (1 : Int))) else 0)] h11 fun v5 h12 => ∃ t32 : ByteArray, v5 = .string t32 ∧ (
 Store h12 ((⟨b, 0, none⟩ : Addr).add 1) (.string t32) fun h13 =>
 LoadS h13 (⟨b, 0, none⟩ : Addr) fun t35_0 =>
 LoadS h13 ((⟨b, 0, none⟩ : Addr).add 1) fun t35_1 =>
 LoadB h13 ((⟨b, 0, none⟩ : Addr).add 2) fun t35_2 =>
 New h13 (.cells #[.string t35_0, .string t35_1, .bool t35_2] t_api_Pair) fun b1 h14 =>
 RunK A P (Builtin.append_ #[t_sl_api_Pair, t_sl_api_Pair] t_sl_api_Pair #[.slice s1.1.p s1.1.len s1.1.cap, .slice (some (⟨b1, 0, none⟩ : Addr)) 1 1]) h14 fun v6 h15 => ∃ t37 : Sl, v6 = .slice t37.p t37.len t37.cap ∧ (
 K ((⟨t37.p, t37.len, t37.cap⟩ : Sl), (IntKind.wrap .i64 (s1.2.1 + (1 : Int))), ()) h15))))) (
 HCalls A P f_vary_Reader_End #[.pointer t12] h4 fun v7 h16 => ∃ t42 : Bool, v7 = .bool t42 ∧ (
 R (.tuple #[.int .i64 t14, .slice s1.1.p s1.1.len s1.1.cap, .bool t42]) h16))) ((⟨none, 0, 0⟩ : Sl), 0, ()) h3)))
def a_lsm_changes : Ann := .seq .none (.seq .none (.seq .none (.seq .none (.seq (.seq .none (.block (.loop [(8, .one .sl), (18, .one (.int .i64))] [5, 6, 17] (.seq .none (.seq (.cond .none .none) (.seq (.block (.seq .none (.seq .none (.seq .none (.seq .none .none))))) .none)))))) (.seq .none .none)))))
theorem e_lsm_changes (A : Amb) (s : ByteArray) (h : Heap) (R : Value → Heap → Prop) : F_lsm_changes A s h R = semFun A P f_lsm_changes a_lsm_changes [.string s] h R := by kernel_rfl
theorem ok_lsm_changes {A : Amb} {s : ByteArray} {h : Heap} {R : Value → Heap → Prop} (H : F_lsm_changes A s h R) : HCalls A P f_lsm_changes #[.string s] h R :=
 semFun_sound mixed (e_lsm_changes A s h R ▸ H)
/-- (*wherry/mem.Table).Put -/
def F_mem_Table_Put (A : Amb) (t : Option Addr) (p_0 : ByteArray) (p_1 : ByteArray) (p_2 : Bool) (h : Heap) (R : Value → Heap → Prop) : Prop :=
 New h (.cells #[.string p_0, .string p_1, .bool p_2] t_api_Pair) fun b h1 =>
 Join (fun (r : Bool × Unit) h2 =>
 PIf r.1 (
 R (.int .i64 1) h2) (
 Join (fun (r1 : Bool × Unit) h3 =>
 PIf r1.1 (
 R (.int .i64 2) h3) (
 LoadS h3 (⟨b, 0, none⟩ : Addr) fun t37 =>
 HCalls A P f_mem_Table_before #[.pointer t, .string t37] h3 fun v h4 => ∃ t38_0 : Option Addr, ∃ t38_1 : Option Addr, ∃ t38_2 : Option Addr, ∃ t38_3 : Option Addr, ∃ t38_4 : Option Addr, ∃ t38_5 : Option Addr, ∃ t38_6 : Option Addr, ∃ t38_7 : Option Addr, ∃ t38_8 : Option Addr, ∃ t38_9 : Option Addr, ∃ t38_10 : Option Addr, ∃ t38_11 : Option Addr, v = .agg #[.pointer t38_0, .pointer t38_1, .pointer t38_2, .pointer t38_3, .pointer t38_4, .pointer t38_5, .pointer t38_6, .pointer t38_7, .pointer t38_8, .pointer t38_9, .pointer t38_10, .pointer t38_11] ∧ (
 New h4 (.cells #[.pointer none, .pointer none, .pointer none, .pointer none, .pointer none, .pointer none, .pointer none, .pointer none, .pointer none, .pointer none, .pointer none, .pointer none] t_12_p_mem_node) fun b1 h5 =>
 Store h5 (⟨b1, 0, none⟩ : Addr) (.pointer t38_0) fun h6 =>
 Store h6 ((⟨b1, 0, none⟩ : Addr).add 1) (.pointer t38_1) fun h7 =>
 Store h7 ((⟨b1, 0, none⟩ : Addr).add 2) (.pointer t38_2) fun h8 =>
 Store h8 ((⟨b1, 0, none⟩ : Addr).add 3) (.pointer t38_3) fun h9 =>
 Store h9 ((⟨b1, 0, none⟩ : Addr).add 4) (.pointer t38_4) fun h10 =>
 Store h10 ((⟨b1, 0, none⟩ : Addr).add 5) (.pointer t38_5) fun h11 =>
 Store h11 ((⟨b1, 0, none⟩ : Addr).add 6) (.pointer t38_6) fun h12 =>
 Store h12 ((⟨b1, 0, none⟩ : Addr).add 7) (.pointer t38_7) fun h13 =>
 Store h13 ((⟨b1, 0, none⟩ : Addr).add 8) (.pointer t38_8) fun h14 =>
 Store h14 ((⟨b1, 0, none⟩ : Addr).add 9) (.pointer t38_9) fun h15 =>
 Store h15 ((⟨b1, 0, none⟩ : Addr).add 10) (.pointer t38_10) fun h16 =>
 Store h16 ((⟨b1, 0, none⟩ : Addr).add 11) (.pointer t38_11) fun h17 =>
 Chk ((0 : Int) ≤ 0 ∧ 0 < (12 : Int)) <|
 LoadP h17 ((⟨b1, 0, none⟩ : Addr).add ((0 : Int).toNat * 1)) fun t40 =>
 At t40 fun a =>
 Chk ((0 : Int) ≤ 0 ∧ 0 < (12 : Int)) <|
 LoadP h17 ((a.add 3).add ((0 : Int).toNat * 1)) fun t44 =>
 Join (fun (r2 : Bool × Unit) h18 =>
 PIf r2.1 (
 At t fun a1 =>
 LoadI .i64 h18 (a1.add 16) fun t60 =>
 LoadS h18 ((⟨b, 0, none⟩ : Addr).add 1) fun t62 =>
 At t44 fun a2 =>
 LoadS h18 (a2.add 1) fun t68 =>
 At t fun a3 =>
 Store h18 (a3.add 16) (.int .i64 (IntKind.wrap .i64 (t60 + (IntKind.wrap .i64 ((t62.size : Int) - (t68.size : Int)))))) fun h19 =>
 LoadS h19 (⟨b, 0, none⟩ : Addr) fun t75_0 =>
 LoadS h19 ((⟨b, 0, none⟩ : Addr).add 1) fun t75_1 =>
 LoadB h19 ((⟨b, 0, none⟩ : Addr).add 2) fun t75_2 =>
 At t44 fun a4 =>
 Store h19 a4 (.string t75_0) fun h20 =>
 Store h20 (a4.add 1) (.string t75_1) fun h21 =>
 Store h21 (a4.add 2) (.bool t75_2) fun h22 =>
 R (.int .i64 0) h22) (
 LoadS h18 (⟨b, 0, none⟩ : Addr) fun t78_0 =>
 LoadS h18 ((⟨b, 0, none⟩ : Addr).add 1) fun t78_1 =>
 LoadB h18 ((⟨b, 0, none⟩ : Addr).add 2) fun t78_2 =>
 New h18 (.cells #[.string t78_0, .string t78_1, .bool t78_2, .pointer none, .pointer none, .pointer none, .pointer none, .pointer none, .pointer none, .pointer none, .pointer none, .pointer none, .pointer none, .pointer none, .pointer none] t_mem_node) fun b2 h23 =>
 LoadS h23 (⟨b, 0, none⟩ : Addr) fun t82 =>
 HCalls A P f_mem_height #[.string t82] h23 fun v1 h24 => ∃ t83 : Int, v1 = .int .i64 t83 ∧ (
 Loop (fun K3 (s : Int × Unit) h25 =>
 PIf (decide (s.1 < t83)) (
 Chk ((0 : Int) ≤ s.1 ∧ s.1 < (12 : Int)) <|
 LoadP h25 ((⟨b1, 0, none⟩ : Addr).add ((s.1 : Int).toNat * 1)) fun t91 =>
 At t91 fun a5 =>
 Chk ((0 : Int) ≤ s.1 ∧ s.1 < (12 : Int)) <|
 LoadP h25 ((a5.add 3).add ((s.1 : Int).toNat * 1)) fun t96 =>
 Chk ((0 : Int) ≤ s.1 ∧ s.1 < (12 : Int)) <|
 Store h25 (((⟨b2, 0, none⟩ : Addr).add 3).add ((s.1 : Int).toNat * 1)) (.pointer t96) fun h26 =>
 Chk ((0 : Int) ≤ s.1 ∧ s.1 < (12 : Int)) <|
 LoadP h26 ((⟨b1, 0, none⟩ : Addr).add ((s.1 : Int).toNat * 1)) fun t102 =>
 At t102 fun a6 =>
 Chk ((0 : Int) ≤ s.1 ∧ s.1 < (12 : Int)) <|
 Store h26 ((a6.add 3).add ((s.1 : Int).toNat * 1)) (.pointer (some (⟨b2, 0, none⟩ : Addr))) fun h27 =>
 K3 ((IntKind.wrap .i64 (s.1 + (1 : Int))), ()) h27) (
 At t fun a7 =>
 LoadI .i64 h25 (a7.add 15) fun t112 =>
 At t fun a8 =>
 Store h25 (a8.add 15) (.int .i64 (IntKind.wrap .i64 (t112 + (1 : Int)))) fun h28 =>
 At t fun a9 =>
 LoadI .i64 h28 (a9.add 16) fun t119 =>
 LoadS h28 (⟨b, 0, none⟩ : Addr) fun t121 =>
 LoadS h28 ((⟨b, 0, none⟩ : Addr).add 1) fun t124 =>
 At t fun a10 =>
 Store h28 (a10.add 16) (.int .i64 (IntKind.wrap .i64 (t119 + (IntKind.wrap .i64 ((t121.size : Int) + (t124.size : Int)))))) fun h29 =>
 R (.int .i64 0) h29)) (0, ()) h24))) fun K2 =>
 PIf (!t44.isNone) (
 At t44 fun a11 =>
 LoadS h17 a11 fun t52 =>
 LoadS h17 (⟨b, 0, none⟩ : Addr) fun t54 =>
 K2 ((sEq t52 t54), ()) h17) (
 K2 (false, ()) h17)))) fun K1 =>
 LoadS h2 (⟨b, 0, none⟩ : Addr) fun t26 =>
 PIf (decide ((t26.size : Int) > (64 : Int))) (
 K1 (true, ()) h2) (
 LoadS h2 ((⟨b, 0, none⟩ : Addr).add 1) fun t31 =>
 K1 ((decide ((t31.size : Int) > (8192 : Int))), ()) h2))) fun K =>
 PIf (t.isNone) (
 K (true, ()) h1) (
 LoadS h1 (⟨b, 0, none⟩ : Addr) fun t13 =>
 PIf (sEq t13 (⟨#[]⟩ : ByteArray)) (
 K (true, ()) h1) (
 LoadB h1 ((⟨b, 0, none⟩ : Addr).add 2) fun t18 =>
 PIf t18 (
 LoadS h1 ((⟨b, 0, none⟩ : Addr).add 1) fun t21 =>
 K ((!sEq t21 (⟨#[]⟩ : ByteArray)), ()) h1) (
 K (false, ()) h1)))
def a_mem_Table_Put : Ann := .seq .none (.seq (.seq (.reg [(24, .one .bool)] [0, 3]) (.cond (.seq .none .none) .none)) (.seq (.seq (.reg [(34, .one .bool)] [0, 3]) (.cond (.seq .none .none) .none)) (.seq .none (.seq (.seq .none (.seq (.reg [(56, .one .bool)] [0, 3, 5, 6]) (.cond (.seq .none (.seq .none (.seq .none .none))) .none))) (.seq .none (.seq (.seq .none (.block (.loop [(84, .one (.int .i64))] [0, 3, 5, 7, 83] (.seq .none (.seq (.cond .none .none) (.seq (.block (.seq .none (.seq .none .none))) .none)))))) (.seq .none (.seq .none (.seq .none .none)))))))))
theorem e_mem_Table_Put (A : Amb) (t : Option Addr) (p_0 : ByteArray) (p_1 : ByteArray) (p_2 : Bool) (h : Heap) (R : Value → Heap → Prop) : F_mem_Table_Put A t p_0 p_1 p_2 h R = semFun A P f_mem_Table_Put a_mem_Table_Put [.pointer t, .agg #[.string p_0, .string p_1, .bool p_2]] h R := by kernel_rfl
theorem ok_mem_Table_Put {A : Amb} {t : Option Addr} {p_0 : ByteArray} {p_1 : ByteArray} {p_2 : Bool} {h : Heap} {R : Value → Heap → Prop} (H : F_mem_Table_Put A t p_0 p_1 p_2 h R) : HCalls A P f_mem_Table_Put #[.pointer t, .agg #[.string p_0, .string p_1, .bool p_2]] h R :=
 semFun_sound mixed (e_mem_Table_Put A t p_0 p_1 p_2 h R ▸ H)
/-- (*wherry/lsm.DB).sweep -/
def F_lsm_DB_sweep (A : Amb) (d : Option Addr) (h : Heap) (R : Value → Heap → Prop) : Prop :=
 At d fun a =>
 LoadP h a fun t14 =>
 HCalls A P f_box_Box_List #[.pointer t14] h fun v h1 => ∃ t15a : Sl, ∃ t15b : Int, v = .tuple #[.slice t15a.p t15a.len t15a.cap, .int .i64 t15b] ∧ (
 PIf (t15b != (0 : Int)) (
 R (.int .i64 t15b) h1) (
 Loop (fun K (s : Int × Unit) h2 =>
 PIf (decide (s.1 < ((t15a.len : Nat) : Int))) (
 Join (fun (s1 : Unit) h3 =>
 K ((IntKind.wrap .i64 (s.1 + (1 : Int))), ()) h3) fun K1 =>
 Idx t15a.p t15a.len s.1 fun a1 =>
 LoadS h2 (a1.add (s.1.toNat * 1)) fun t26 =>
 Join (fun (r : Bool × Unit) h4 =>
 PIf r.1 (
 K1 () h4) (
 Chk ((0 : Int) ≤ 1 ∧ 1 ≤ ((t26.size : Nat) : Int)) <|
 HCalls A P f_strconv_Atoi #[.string (t26.extract ((1 : Int).toNat) t26.size)] h4 fun v1 h5 => ∃ t38a : Int, ∃ t38b : Value, v1 = .tuple #[.int .i64 t38a, t38b] ∧ (
 Join (fun (r1 : Bool × Unit) h6 =>
 PIf r1.1 (
 At d fun a2 =>
 LoadP h6 a2 fun t61 =>
 HCalls A P f_box_Box_Delete #[.pointer t61, .string t26] h6 fun v2 h7 => ∃ t63 : Int, v2 = .int .i64 t63 ∧ (
 PIf (t63 != (0 : Int)) (
 R (.int .i64 t63) h7) (
 At d fun a3 =>
 LoadI .i64 h7 (a3.add 6) fun t71 =>
 At d fun a4 =>
 Store h7 (a4.add 6) (.int .i64 (if ((IntKind.wrap .i64 (t38a + (1 : Int))) : Int) > t71 then (IntKind.wrap .i64 (t38a + (1 : Int))) else t71)) fun h8 =>
 K1 () h8))) (
 K1 () h6)) fun K3 =>
 Chk (isIf t38b) <|
 PIf ((isNilI t38b)) (
 HCalls A P f_lsm_file #[.int .i64 t38a] h5 fun v3 h9 => ∃ t45 : ByteArray, v3 = .string t45 ∧ (
 PIf (sEq t45 t26) (
 At d fun a5 =>
 LoadL h9 (a5.add 5) fun t53 =>
 HCalls A P f_slices_Contains_of___int_int #[.slice t53.p t53.len t53.cap, .int .i64 t38a] h9 fun v4 h10 => ∃ t55 : Bool, v4 = .bool t55 ∧ (
 K3 ((!t55), ()) h10)) (
 K3 (false, ()) h9))) (
 K3 (false, ()) h5)))) fun K2 =>
 PIf (decide ((t26.size : Int) < (2 : Int))) (
 K2 (true, ()) h2) (
 Chk ((0 : Int) ≤ 0 ∧ 0 < (t26.size : Int)) <|
 K2 (((sAt t26 0) != (116 : Int)), ()) h2)) (
 R (.int .i64 0) h2)) (0, ()) h1))
def a_lsm_DB_sweep : Ann := .seq .none (.seq .none (.seq (.seq .none (.cond (.seq .none .none) .none)) (.seq (.seq .none (.block (.loop [(23, .one (.int .i64))] [0, 21, 22] (.seq .none (.seq (.cond .none .none) (.seq (.blockJ [] [0, 21, 22, 23] (.seq .none (.seq (.seq (.reg [(34, .one .bool)] [0, 6, 21, 22, 23]) (.cond .none .none)) (.seq .none (.seq (.reg [(57, .one .bool)] [0, 6, 7, 21, 22, 23]) (.cond (.seq (.seq .none (.seq .none (.cond (.seq .none .none) .none))) .none) .none)))))) .none)))))) (.seq .none .none))))
theorem e_lsm_DB_sweep (A : Amb) (d : Option Addr) (h : Heap) (R : Value → Heap → Prop) : F_lsm_DB_sweep A d h R = semFun A P f_lsm_DB_sweep a_lsm_DB_sweep [.pointer d] h R := by kernel_rfl
theorem ok_lsm_DB_sweep {A : Amb} {d : Option Addr} {h : Heap} {R : Value → Heap → Prop} (H : F_lsm_DB_sweep A d h R) : HCalls A P f_lsm_DB_sweep #[.pointer d] h R :=
 semFun_sound mixed (e_lsm_DB_sweep A d h R ▸ H)
/-- (*wherry/wal.Log).Append -/
def F_wal_Log_Append (A : Amb) (l : Option Addr) (vrec : ByteArray) (h : Heap) (R : Value → Heap → Prop) : Prop :=
 PIf (l.isNone) (
 R (.int .i64 1) h) (
 HCalls A P f_frame_Wrap #[.string vrec] h fun v h1 => ∃ t12a : ByteArray, ∃ t12b : Int, v = .tuple #[.string t12a, .int .i64 t12b] ∧ (
 PIf (t12b != (0 : Int)) (
 R (.int .i64 t12b) h1) (
 At l fun a =>
 LoadP h1 a fun t21 =>
 At l fun a1 =>
 LoadS h1 (a1.add 1) fun t25 =>
 At l fun a2 =>
 LoadI .i64 h1 (a2.add 2) fun t29 =>
 HCalls A P f_wal_file #[.string t25, .int .i64 t29] h1 fun v1 h2 => ∃ t30 : ByteArray, v1 = .string t30 ∧ (
 And (hget h2 a = some (.pointer t21)) <|
 HCalls A P f_box_Box_Append #[.pointer t21, .string t30, .string t12a] h2 fun v2 h3 => ∃ t32 : Int, v2 = .int .i64 t32 ∧ (
 PIf (t32 != (0 : Int)) (
 R (.int .i64 t32) h3) (
 At l fun a3 =>
 Store h3 (a3.add 3) (.bool true) fun h4 =>
 R (.int .i64 0) h4))))))
def a_wal_Log_Append : Ann := .seq .none (.seq (.seq .none (.cond (.seq .none .none) .none)) (.seq .none (.seq (.seq .none (.cond (.seq .none .none) .none)) (.seq (.seq .none (.seq .none (.cond (.seq .none .none) .none))) (.seq .none (.seq .none .none))))))
theorem e_wal_Log_Append (A : Amb) (l : Option Addr) (vrec : ByteArray) (h : Heap) (R : Value → Heap → Prop) : F_wal_Log_Append A l vrec h R = semFun A P f_wal_Log_Append a_wal_Log_Append [.pointer l, .string vrec] h R := by kernel_rfl
theorem ok_wal_Log_Append {A : Amb} {l : Option Addr} {vrec : ByteArray} {h : Heap} {R : Value → Heap → Prop} (H : F_wal_Log_Append A l vrec h R) : HCalls A P f_wal_Log_Append #[.pointer l, .string vrec] h R :=
 semFun_sound mixed (e_wal_Log_Append A l vrec h R ▸ H)
/-- wherry/lsm.batch -/
def F_lsm_batch (A : Amb) (seg : Int) (l : Sl) (h : Heap) (R : Value → Heap → Prop) : Prop :=
 HCalls A P f_vary_Put #[.int .u64 (IntKind.wrap .u64 seg)] h fun v h1 => ∃ t10 : ByteArray, v = .string t10 ∧ (
 HCalls A P f_vary_Put #[.int .u64 (IntKind.wrap .u64 ((l.len : Nat) : Int))] h1 fun v1 h2 => ∃ t14 : ByteArray, v1 = .string t14 ∧ (
 Chk (((t10.size + t14.size : Nat) : Int) ≤ IntKind.i64.max) <|
 Loop (fun K (s : ByteArray × Int × Unit) h3 =>
 PIf (decide (s.2.1 < ((l.len : Nat) : Int))) (
 Join (fun (s1 : ByteArray × Unit) h4 =>
 K (s1.1, (IntKind.wrap .i64 (s.2.1 + (1 : Int))), ()) h4) fun K1 =>
 Idx l.p l.len s.2.1 fun a =>
 LoadS h3 (a.add (s.2.1.toNat * 3)) fun t21_0 =>
 LoadS h3 ((a.add (s.2.1.toNat * 3)).add 1) fun t21_1 =>
 LoadB h3 ((a.add (s.2.1.toNat * 3)).add 2) fun t21_2 =>
 New h3 (.cells #[.string (⟨#[]⟩ : ByteArray), .string (⟨#[]⟩ : ByteArray), .bool false] t_api_Pair) fun b h5 =>
 Store h5 (⟨b, 0, none⟩ : Addr) (.string t21_0) fun h6 =>
 Store h6 ((⟨b, 0, none⟩ : Addr).add 1) (.string t21_1) fun h7 =>
 Store h7 ((⟨b, 0, none⟩ : Addr).add 2) (.bool t21_2) fun h8 =>
 LoadS h8 (⟨b, 0, none⟩ : Addr) fun t24 =>
 HCalls A P f_vary_Text #[.string t24] h8 fun v2 h9 => ∃ t25 : ByteArray, v2 = .string t25 ∧ (
 Chk (((s.1.size + t25.size : Nat) : Int) ≤ IntKind.i64.max) <|
 LoadB h9 ((⟨b, 0, none⟩ : Addr).add 2) fun t28 =>
 PIf t28 (
 HCalls A P f_vary_Put #[.int .u64 0] h9 fun v3 h10 => ∃ t30 : ByteArray, v3 = .string t30 ∧ (
 Chk ((((s.1 ++ t25).size + t30.size : Nat) : Int) ≤ IntKind.i64.max) <|
 K1 (((s.1 ++ t25) ++ t30), ()) h10)) (
 LoadS h9 ((⟨b, 0, none⟩ : Addr).add 1) fun t34 =>
 HCalls A P f_vary_Put #[.int .u64 (IntKind.wrap .u64 ((IntKind.wrap .u64 (t34.size : Int)) + (1 : Int)))] h9 fun v4 h11 => ∃ t38 : ByteArray, v4 = .string t38 ∧ (
 LoadS h11 ((⟨b, 0, none⟩ : Addr).add 1) fun t40 =>
 And (hget h9 ((⟨b, 0, none⟩ : Addr).add 1) = some (.string t40)) <|
 Chk (((t38.size + t40.size : Nat) : Int) ≤ IntKind.i64.max) <|
 Chk ((((s.1 ++ t25).size + (t38 ++ t40).size : Nat) : Int) ≤ IntKind.i64.max) <|
 K1 (((s.1 ++ t25) ++ (t38 ++ t40)), ()) h11)))) (
 R (.string s.1) h3)) ((t10 ++ t14), 0, ()) h2))
def a_lsm_batch : Ann := .seq .none (.seq .none (.seq (.seq .none (.block (.loop [(5, .one .str), (18, .one (.int .i64))] [16, 17] (.seq .none (.seq (.cond .none .none) (.seq (.blockJ [(5, .one .str)] [16, 17, 18] (.seq .none (.seq .none (.seq .none (.cond .none .none))))) .none)))))) (.seq .none .none)))
theorem e_lsm_batch (A : Amb) (seg : Int) (l : Sl) (h : Heap) (R : Value → Heap → Prop) : F_lsm_batch A seg l h R = semFun A P f_lsm_batch a_lsm_batch [.int .i64 seg, .slice l.p l.len l.cap] h R := by kernel_rfl
theorem ok_lsm_batch {A : Amb} {seg : Int} {l : Sl} {h : Heap} {R : Value → Heap → Prop} (H : F_lsm_batch A seg l h R) : HCalls A P f_lsm_batch #[.int .i64 seg, .slice l.p l.len l.cap] h R :=
 semFun_sound mixed (e_lsm_batch A seg l h R ▸ H)
/-- (*wherry/lsm.DB).hurt -/
def F_lsm_DB_hurt (A : Amb) (d : Option Addr) (e : Int) (h : Heap) (R : Value → Heap → Prop) : Prop :=
 Join (fun (s : Unit) h1 =>
 R (.int .i64 e) h1) fun K =>
 PIf (e == (30 : Int)) (
 At d fun a =>
 Store h (a.add 8) (.bool true) fun h2 =>
 K () h2) (
 K () h)
def a_lsm_DB_hurt : Ann := .seq .none (.seqJ [] [1] (.seq .none (.cond .none .none)) (.seq .none .none))
theorem e_lsm_DB_hurt (A : Amb) (d : Option Addr) (e : Int) (h : Heap) (R : Value → Heap → Prop) : F_lsm_DB_hurt A d e h R = semFun A P f_lsm_DB_hurt a_lsm_DB_hurt [.pointer d, .int .i64 e] h R := by kernel_rfl
theorem ok_lsm_DB_hurt {A : Amb} {d : Option Addr} {e : Int} {h : Heap} {R : Value → Heap → Prop} (H : F_lsm_DB_hurt A d e h R) : HCalls A P f_lsm_DB_hurt #[.pointer d, .int .i64 e] h R :=
 semFun_sound mixed (e_lsm_DB_hurt A d e h R ▸ H)
/-- (*wherry/wal.Log).Sync -/
def F_wal_Log_Sync (A : Amb) (l : Option Addr) (h : Heap) (R : Value → Heap → Prop) : Prop :=
 PIf (l.isNone) (
 R (.int .i64 1) h) (
 At l fun a =>
 LoadB h (a.add 3) fun t8 =>
 PIf (!t8) (
 R (.int .i64 0) h) (
 At l fun a1 =>
 LoadP h a1 fun t13 =>
 At l fun a2 =>
 LoadS h (a2.add 1) fun t17 =>
 At l fun a3 =>
 LoadI .i64 h (a3.add 2) fun t21 =>
 HCalls A P f_wal_file #[.string t17, .int .i64 t21] h fun v h1 => ∃ t22 : ByteArray, v = .string t22 ∧ (
 And (hget h1 a1 = some (.pointer t13)) <|
 HCalls A P f_box_Box_Sync #[.pointer t13, .string t22] h1 fun v1 h2 => ∃ t23 : Int, v1 = .int .i64 t23 ∧ (
 R (.int .i64 t23) h2))))
def a_wal_Log_Sync : Ann := .seq .none (.seq (.seq .none (.cond (.seq .none .none) .none)) (.seq (.seq .none (.cond (.seq .none .none) .none)) (.seq .none .none)))
theorem e_wal_Log_Sync (A : Amb) (l : Option Addr) (h : Heap) (R : Value → Heap → Prop) : F_wal_Log_Sync A l h R = semFun A P f_wal_Log_Sync a_wal_Log_Sync [.pointer l] h R := by kernel_rfl
theorem ok_wal_Log_Sync {A : Amb} {l : Option Addr} {h : Heap} {R : Value → Heap → Prop} (H : F_wal_Log_Sync A l h R) : HCalls A P f_wal_Log_Sync #[.pointer l] h R :=
 semFun_sound mixed (e_wal_Log_Sync A l h R ▸ H)
/-- (*wherry/mem.Table).Len -/
def F_mem_Table_Len (A : Amb) (t : Option Addr) (h : Heap) (R : Value → Heap → Prop) : Prop :=
 PIf (t.isNone) (
 R (.tuple #[.int .i64 0, .int .i64 0]) h) (
 At t fun a =>
 LoadI .i64 h (a.add 15) fun t9 =>
 At t fun a1 =>
 LoadI .i64 h (a1.add 16) fun t13 =>
 R (.tuple #[.int .i64 t9, .int .i64 t13]) h)
def a_mem_Table_Len : Ann := .seq .none (.seq (.seq .none (.cond (.seq .none .none) .none)) (.seq .none .none))
theorem e_mem_Table_Len (A : Amb) (t : Option Addr) (h : Heap) (R : Value → Heap → Prop) : F_mem_Table_Len A t h R = semFun A P f_mem_Table_Len a_mem_Table_Len [.pointer t] h R := by kernel_rfl
theorem ok_mem_Table_Len {A : Amb} {t : Option Addr} {h : Heap} {R : Value → Heap → Prop} (H : F_mem_Table_Len A t h R) : HCalls A P f_mem_Table_Len #[.pointer t] h R :=
 semFun_sound mixed (e_mem_Table_Len A t h R ▸ H)
/-- wherry/merge.Some -/
def F_merge_Some (A : Amb) (s : Value) (vto : ByteArray) (most : Int) (h : Heap) (R : Value → Heap → Prop) : Prop :=
 New h (.cells #[.string vto] t_string) fun b h1 =>
 New h1 (.cells #[.int .i64 most] t_int) fun b1 h2 =>
 New h2 (.cells #[.slice none 0 0] t_sl_api_Pair) fun b2 h3 =>
 Join (fun (r : Bool × Unit) h4 =>
 PIf r.1 (
 R (.slice none 0 0) h4) (
 RangeK A P s [.agg [.str, .str, .bool]] (fun (args : (ByteArray × ByteArray × Bool × Unit) × Unit) l h5 kn kj =>
 New h5 (.cells #[.string (⟨#[]⟩ : ByteArray), .string (⟨#[]⟩ : ByteArray), .bool false] t_api_Pair) fun b3 h7 =>
 Store h7 (⟨b3, 0, none⟩ : Addr) (.string args.1.1) fun h8 =>
 Store h8 ((⟨b3, 0, none⟩ : Addr).add 1) (.string args.1.2.1) fun h9 =>
 Store h9 ((⟨b3, 0, none⟩ : Addr).add 2) (.bool args.1.2.2.1) fun h10 =>
 ∃ vrec : Go.Loop, h10[l]? = some (.loop vrec) ∧ vrec.state = .ready ∧ (
 Join (fun (r1 : Bool × Unit) h11 =>
 PIf r1.1 (
 kj (some 0) h11) (
 LoadL h11 (⟨b2, 0, none⟩ : Addr) fun t25 =>
 LoadS h11 (⟨b3, 0, none⟩ : Addr) fun t26_0 =>
 LoadS h11 ((⟨b3, 0, none⟩ : Addr).add 1) fun t26_1 =>
 LoadB h11 ((⟨b3, 0, none⟩ : Addr).add 2) fun t26_2 =>
 New h11 (.cells #[.string t26_0, .string t26_1, .bool t26_2] t_api_Pair) fun b4 h12 =>
 RunK A P (Builtin.append_ #[t_sl_api_Pair, t_sl_api_Pair] t_sl_api_Pair #[.slice t25.p t25.len t25.cap, .slice (some (⟨b4, 0, none⟩ : Addr)) 1 1]) h12 fun v h13 => ∃ t28 : Sl, v = .slice t28.p t28.len t28.cap ∧ (
 Store h13 (⟨b2, 0, none⟩ : Addr) (.slice t28.p t28.len t28.cap) fun h14 =>
 LoadL h14 (⟨b2, 0, none⟩ : Addr) fun t29 =>
 LoadI .i64 h14 (⟨b1, 0, none⟩ : Addr) fun t31 =>
 PIf (((t29.len : Nat) : Int) == t31) (
 kj (some 0) h14) (
 kn h14)))) fun K1 =>
 LoadS (h10.setIfInBounds l (.loop { vrec with state := .busy })) (⟨b, 0, none⟩ : Addr) fun t17 =>
 PIf (!sEq t17 (⟨#[]⟩ : ByteArray)) (
 LoadS (h10.setIfInBounds l (.loop { vrec with state := .busy })) (⟨b3, 0, none⟩ : Addr) fun t21 =>
 LoadS (h10.setIfInBounds l (.loop { vrec with state := .busy })) (⟨b, 0, none⟩ : Addr) fun t22 =>
 K1 ((!sLt t21 t22), ()) (h10.setIfInBounds l (.loop { vrec with state := .busy }))) (
 K1 (false, ()) (h10.setIfInBounds l (.loop { vrec with state := .busy }))))) h4 (fun h15 =>
 LoadL h15 (⟨b2, 0, none⟩ : Addr) fun t33 =>
 h15[h4.size]? = some (.deferred (some [])) ∧ (
 R (.slice t33.p t33.len t33.cap) (h15.setIfInBounds h4.size (.deferred none)))) (fun j h16 =>
 (match j with
 | none => (
 h16[h4.size]? = some (.deferred (some [])) ∧ (
 R (.slice none 0 0) (h16.setIfInBounds h4.size (.deferred none))))
 | some i => (match Nat.beq i 0 with
 | true => (
 LoadL h16 (⟨b2, 0, none⟩ : Addr) fun t33_1 =>
 h16[h4.size]? = some (.deferred (some [])) ∧ (
 R (.slice t33_1.p t33_1.len t33_1.cap) (h16.setIfInBounds h4.size (.deferred none))))
 | false => False))))) fun K =>
 Chk (isFn s) <|
 PIf ((isNilF s)) (
 K (true, ()) h3) (
 LoadI .i64 h3 (⟨b1, 0, none⟩ : Addr) fun t12 =>
 K ((decide (t12 ≤ (0 : Int))), ()) h3)
def a_merge_Some : Ann := .seq .none (.seq .none (.seq (.seq (.reg [(14, .one .bool)] [0, 4, 5, 6, 7]) (.cond (.seq .none .none) .none)) (.seq (.seq .none (.block (.range [.agg [.str, .str, .bool]] .none (.block (.seq (.seq (.reg [(24, .one .bool)] [5, 7, 8]) (.cond .none .none)) (.seq .none (.seq .none (.cond .none .none)))))))) (.seq .none .none))))
theorem e_merge_Some (A : Amb) (s : Value) (vto : ByteArray) (most : Int) (h : Heap) (R : Value → Heap → Prop) : F_merge_Some A s vto most h R = semFun A P f_merge_Some a_merge_Some [s, .string vto, .int .i64 most] h R := by kernel_rfl
theorem ok_merge_Some {A : Amb} {s : Value} {vto : ByteArray} {most : Int} {h : Heap} {R : Value → Heap → Prop} (H : F_merge_Some A s vto most h R) : HCalls A P f_merge_Some #[s, .string vto, .int .i64 most] h R :=
 semFun_sound mixed (e_merge_Some A s vto most h R ▸ H)
/-- wherry/merge.Live -/
def F_merge_Live (A : Amb) (s : Value) (h : Heap) (R : Value → Heap → Prop) : Prop :=
 OneK (oneB s) <|
 New h (.cells #[s] t_iter_Seq_wherry_api_Pair) fun b h1 =>
 R ((.func (.func f_merge_Live_1) #[] #[.pointer (some (⟨b, 0, none⟩ : Addr))])) h1
def a_merge_Live : Ann := .seq .none (.seq .none .none)
theorem e_merge_Live (A : Amb) (s : Value) (h : Heap) (R : Value → Heap → Prop) : F_merge_Live A s h R = semFun A P f_merge_Live a_merge_Live [s] h R := by kernel_rfl
theorem ok_merge_Live {A : Amb} {s : Value} {h : Heap} {R : Value → Heap → Prop} (H : F_merge_Live A s h R) : HCalls A P f_merge_Live #[s] h R :=
 semFun_sound mixed (e_merge_Live A s h R ▸ H)
/-- (*wherry/lsm.DB).all -/
def F_lsm_DB_all (A : Amb) (d : Option Addr) (vfrom : ByteArray) (vto : ByteArray) (h : Heap) (R : Value → Heap → Prop) : Prop :=
 At d fun a =>
 LoadP h (a.add 3) fun t13 =>
 HCalls A P f_mem_Table_From #[.pointer t13, .string vfrom] h fun v h1 => ∃ t15 : Value, v = t15 ∧ (
 HCalls A P f_merge_Some #[t15, .string vto, .int .i64 1099511627776] h1 fun v1 h2 => ∃ t17 : Sl, v1 = .slice t17.p t17.len t17.cap ∧ (
 HCalls A P f_slices_Values_of___api_Pair_api_Pair #[.slice t17.p t17.len t17.cap] h2 fun v2 h3 => ∃ t18 : Value, v2 = t18 ∧ (
 OneK (oneB t18) <|
 New h3 (.cells #[t18] t_iter_Seq_wherry_api_Pair) fun b h4 =>
 At d fun a1 =>
 LoadL h4 (a1.add 4) fun t23 =>
 Loop (fun K (s : Sl × Int × Unit) h5 =>
 PIf (decide (s.2.1 < ((t23.len : Nat) : Int))) (
 Idx t23.p t23.len s.2.1 fun a2 =>
 LoadP h5 (a2.add (s.2.1.toNat * 1)) fun t28 =>
 HCalls A P f_table_Table_From #[.pointer t28, .string vfrom] h5 fun v3 h6 => ∃ t32 : Value, v3 = t32 ∧ (
 HCalls A P f_merge_Some #[t32, .string vto, .int .i64 1099511627776] h6 fun v4 h7 => ∃ t34 : Sl, v4 = .slice t34.p t34.len t34.cap ∧ (
 HCalls A P f_slices_Values_of___api_Pair_api_Pair #[.slice t34.p t34.len t34.cap] h7 fun v5 h8 => ∃ t35 : Value, v5 = t35 ∧ (
 OneK (oneB t35) <|
 New h8 (.cells #[t35] t_iter_Seq_wherry_api_Pair) fun b1 h9 =>
 RunK A P (Builtin.append_ #[t_sl_iter_Seq_wherry_api_Pair, t_sl_iter_Seq_wherry_api_Pair] t_sl_iter_Seq_wherry_api_Pair #[.slice s.1.p s.1.len s.1.cap, .slice (some (⟨b1, 0, none⟩ : Addr)) 1 1]) h9 fun v6 h10 => ∃ t37 : Sl, v6 = .slice t37.p t37.len t37.cap ∧ (
 K ((⟨t37.p, t37.len, t37.cap⟩ : Sl), (IntKind.wrap .i64 (s.2.1 + (1 : Int))), ()) h10))))) (
 HCalls A P f_merge_All #[.slice s.1.p s.1.len s.1.cap] h5 fun v7 h11 => ∃ t40 : Value, v7 = t40 ∧ (
 R (t40) h11))) ((⟨(some (⟨b, 0, none⟩ : Addr)), 1, 1⟩ : Sl), 0, ()) h4)))
def a_lsm_DB_all : Ann := .seq .none (.seq .none (.seq (.seq .none (.block (.loop [(7, .one .sl), (25, .one (.int .i64))] [1, 2, 23, 24] (.seq .none (.seq (.cond .none .none) (.seq (.block (.seq .none .none)) .none)))))) (.seq .none .none)))
theorem e_lsm_DB_all (A : Amb) (d : Option Addr) (vfrom : ByteArray) (vto : ByteArray) (h : Heap) (R : Value → Heap → Prop) : F_lsm_DB_all A d vfrom vto h R = semFun A P f_lsm_DB_all a_lsm_DB_all [.pointer d, .string vfrom, .string vto] h R := by kernel_rfl
theorem ok_lsm_DB_all {A : Amb} {d : Option Addr} {vfrom : ByteArray} {vto : ByteArray} {h : Heap} {R : Value → Heap → Prop} (H : F_lsm_DB_all A d vfrom vto h R) : HCalls A P f_lsm_DB_all #[.pointer d, .string vfrom, .string vto] h R :=
 semFun_sound mixed (e_lsm_DB_all A d vfrom vto h R ▸ H)
/-- (*wherry/mem.Table).Get -/
def F_mem_Table_Get (A : Amb) (t : Option Addr) (key : ByteArray) (h : Heap) (R : Value → Heap → Prop) : Prop :=
 New h (.cells #[.string (⟨#[]⟩ : ByteArray), .string (⟨#[]⟩ : ByteArray), .bool false] t_api_Pair) fun b h1 =>
 PIf (t.isNone) (
 Store h1 (⟨b, 0, none⟩ : Addr) (.string (⟨#[]⟩ : ByteArray)) fun h2 =>
 Store h2 ((⟨b, 0, none⟩ : Addr).add 1) (.string (⟨#[]⟩ : ByteArray)) fun h3 =>
 Store h3 ((⟨b, 0, none⟩ : Addr).add 2) (.bool false) fun h4 =>
 LoadS h4 (⟨b, 0, none⟩ : Addr) fun res_0 =>
 LoadS h4 ((⟨b, 0, none⟩ : Addr).add 1) fun res_1 =>
 LoadB h4 ((⟨b, 0, none⟩ : Addr).add 2) fun res_2 =>
 R (.tuple #[.agg #[.string res_0, .string res_1, .bool res_2], .bool false]) h4) (
 HCalls A P f_mem_Table_before #[.pointer t, .string key] h1 fun v h5 => ∃ t12_0 : Option Addr, ∃ t12_1 : Option Addr, ∃ t12_2 : Option Addr, ∃ t12_3 : Option Addr, ∃ t12_4 : Option Addr, ∃ t12_5 : Option Addr, ∃ t12_6 : Option Addr, ∃ t12_7 : Option Addr, ∃ t12_8 : Option Addr, ∃ t12_9 : Option Addr, ∃ t12_10 : Option Addr, ∃ t12_11 : Option Addr, v = .agg #[.pointer t12_0, .pointer t12_1, .pointer t12_2, .pointer t12_3, .pointer t12_4, .pointer t12_5, .pointer t12_6, .pointer t12_7, .pointer t12_8, .pointer t12_9, .pointer t12_10, .pointer t12_11] ∧ (
 At t12_0 fun a =>
 Chk ((0 : Int) ≤ 0 ∧ 0 < (12 : Int)) <|
 LoadP h5 ((a.add 3).add ((0 : Int).toNat * 1)) fun t17 =>
 Join (fun (r : Bool × Unit) h6 =>
 PIf r.1 (
 At t17 fun a1 =>
 LoadS h6 a1 fun t32_0 =>
 LoadS h6 (a1.add 1) fun t32_1 =>
 LoadB h6 (a1.add 2) fun t32_2 =>
 Store h6 (⟨b, 0, none⟩ : Addr) (.string t32_0) fun h7 =>
 Store h7 ((⟨b, 0, none⟩ : Addr).add 1) (.string t32_1) fun h8 =>
 Store h8 ((⟨b, 0, none⟩ : Addr).add 2) (.bool t32_2) fun h9 =>
 LoadS h9 (⟨b, 0, none⟩ : Addr) fun res_0_1 =>
 LoadS h9 ((⟨b, 0, none⟩ : Addr).add 1) fun res_1_1 =>
 LoadB h9 ((⟨b, 0, none⟩ : Addr).add 2) fun res_2_1 =>
 R (.tuple #[.agg #[.string res_0_1, .string res_1_1, .bool res_2_1], .bool true]) h9) (
 Store h6 (⟨b, 0, none⟩ : Addr) (.string (⟨#[]⟩ : ByteArray)) fun h10 =>
 Store h10 ((⟨b, 0, none⟩ : Addr).add 1) (.string (⟨#[]⟩ : ByteArray)) fun h11 =>
 Store h11 ((⟨b, 0, none⟩ : Addr).add 2) (.bool false) fun h12 =>
 LoadS h12 (⟨b, 0, none⟩ : Addr) fun res_0_2 =>
 LoadS h12 ((⟨b, 0, none⟩ : Addr).add 1) fun res_1_2 =>
 LoadB h12 ((⟨b, 0, none⟩ : Addr).add 2) fun res_2_2 =>
 R (.tuple #[.agg #[.string res_0_2, .string res_1_2, .bool res_2_2], .bool false]) h12)) fun K =>
 PIf (!t17.isNone) (
 At t17 fun a2 =>
 LoadS h5 a2 fun t25 =>
 K ((sEq t25 key), ()) h5) (
 K (false, ()) h5)))
def a_mem_Table_Get : Ann := .seq .none (.seq (.seq .none (.cond (.seq .none .none) .none)) (.seq (.seq .none (.seq (.reg [(28, .one .bool)] [4, 6]) (.cond (.seq .none .none) .none))) (.seq .none .none)))
theorem e_mem_Table_Get (A : Amb) (t : Option Addr) (key : ByteArray) (h : Heap) (R : Value → Heap → Prop) : F_mem_Table_Get A t key h R = semFun A P f_mem_Table_Get a_mem_Table_Get [.pointer t, .string key] h R := by kernel_rfl
theorem ok_mem_Table_Get {A : Amb} {t : Option Addr} {key : ByteArray} {h : Heap} {R : Value → Heap → Prop} (H : F_mem_Table_Get A t key h R) : HCalls A P f_mem_Table_Get #[.pointer t, .string key] h R :=
 semFun_sound mixed (e_mem_Table_Get A t key h R ▸ H)
/-- (*wherry/table.Table).Get -/
def F_table_Table_Get (A : Amb) (t : Option Addr) (key : ByteArray) (h : Heap) (R : Value → Heap → Prop) : Prop :=
 New h (.cells #[.string (⟨#[]⟩ : ByteArray), .string (⟨#[]⟩ : ByteArray), .bool false] t_api_Pair) fun b h1 =>
 Join (fun (r : Bool × Unit) h2 =>
 PIf r.1 (
 Store h2 (⟨b, 0, none⟩ : Addr) (.string (⟨#[]⟩ : ByteArray)) fun h3 =>
 Store h3 ((⟨b, 0, none⟩ : Addr).add 1) (.string (⟨#[]⟩ : ByteArray)) fun h4 =>
 Store h4 ((⟨b, 0, none⟩ : Addr).add 2) (.bool false) fun h5 =>
 LoadS h5 (⟨b, 0, none⟩ : Addr) fun res_0 =>
 LoadS h5 ((⟨b, 0, none⟩ : Addr).add 1) fun res_1 =>
 LoadB h5 ((⟨b, 0, none⟩ : Addr).add 2) fun res_2 =>
 R (.tuple #[.agg #[.string res_0, .string res_1, .bool res_2], .bool false]) h5) (
 At t fun a =>
 LoadL h2 (a.add 1) fun t26 =>
 HCalls A P f_table_Table_block #[.pointer t, .string key] h2 fun v h6 => ∃ t29 : Int, v = .int .i64 t29 ∧ (
 And (hget h6 (a.add 1) = some (.slice t26.p t26.len t26.cap)) <|
 Idx t26.p t26.len t29 fun a1 =>
 LoadS h6 (a1.add (t29.toNat * 1)) fun t31 =>
 HCalls A P f_table_pairs #[.string t31] h6 fun v1 h7 => ∃ t32a : Sl, ∃ t32b : Bool, v1 = .tuple #[.slice t32a.p t32a.len t32a.cap, .bool t32b] ∧ (
 Loop (fun K1 (s : Int × Unit) h8 =>
 PIf (decide (s.1 < ((t32a.len : Nat) : Int))) (
 Idx t32a.p t32a.len s.1 fun a2 =>
 LoadS h8 (a2.add (s.1.toNat * 3)) fun t40_0 =>
 LoadS h8 ((a2.add (s.1.toNat * 3)).add 1) fun t40_1 =>
 LoadB h8 ((a2.add (s.1.toNat * 3)).add 2) fun t40_2 =>
 New h8 (.cells #[.string (⟨#[]⟩ : ByteArray), .string (⟨#[]⟩ : ByteArray), .bool false] t_api_Pair) fun b1 h9 =>
 Store h9 (⟨b1, 0, none⟩ : Addr) (.string t40_0) fun h10 =>
 Store h10 ((⟨b1, 0, none⟩ : Addr).add 1) (.string t40_1) fun h11 =>
 Store h11 ((⟨b1, 0, none⟩ : Addr).add 2) (.bool t40_2) fun h12 =>
 LoadS h12 (⟨b1, 0, none⟩ : Addr) fun t42 =>
 PIf (sEq t42 key) (
 LoadS h12 (⟨b1, 0, none⟩ : Addr) fun t45_0 =>
 LoadS h12 ((⟨b1, 0, none⟩ : Addr).add 1) fun t45_1 =>
 LoadB h12 ((⟨b1, 0, none⟩ : Addr).add 2) fun t45_2 =>
 Store h12 (⟨b, 0, none⟩ : Addr) (.string t45_0) fun h13 =>
 Store h13 ((⟨b, 0, none⟩ : Addr).add 1) (.string t45_1) fun h14 =>
 Store h14 ((⟨b, 0, none⟩ : Addr).add 2) (.bool t45_2) fun h15 =>
 LoadS h15 (⟨b, 0, none⟩ : Addr) fun res_0_1 =>
 LoadS h15 ((⟨b, 0, none⟩ : Addr).add 1) fun res_1_1 =>
 LoadB h15 ((⟨b, 0, none⟩ : Addr).add 2) fun res_2_1 =>
 R (.tuple #[.agg #[.string res_0_1, .string res_1_1, .bool res_2_1], .bool true]) h15) (
 K1 ((IntKind.wrap .i64 (s.1 + (1 : Int))), ()) h12)) (
 Store h8 (⟨b, 0, none⟩ : Addr) (.string (⟨#[]⟩ : ByteArray)) fun h16 =>
 Store h16 ((⟨b, 0, none⟩ : Addr).add 1) (.string (⟨#[]⟩ : ByteArray)) fun h17 =>
 Store h17 ((⟨b, 0, none⟩ : Addr).add 2) (.bool false) fun h18 =>
 LoadS h18 (⟨b, 0, none⟩ : Addr) fun res_0_2 =>
 LoadS h18 ((⟨b, 0, none⟩ : Addr).add 1) fun res_1_2 =>
 LoadB h18 ((⟨b, 0, none⟩ : Addr).add 2) fun res_2_2 =>
 R (.tuple #[.agg #[.string res_0_2, .string res_1_2, .bool res_2_2], .bool false]) h18)) (0, ()) h7)))) fun K =>
 PIf (t.isNone) (
 K (true, ()) h1) (
 At t fun a3 =>
 LoadS h1 (a3.add 2) fun t16 =>
 HCalls A P f_bloom_Has #[.string t16, .string key] h1 fun v2 h19 => ∃ t18 : Bool, v2 = .bool t18 ∧ (
 K ((!t18), ()) h19))
def a_table_Table_Get : Ann := .seq .none (.seq (.seq (.reg [(20, .one .bool)] [0, 1, 4]) (.cond (.seq .none .none) .none)) (.seq .none (.seq (.seq .none (.block (.loop [(37, .one (.int .i64))] [1, 4, 35, 36] (.seq .none (.seq (.cond .none .none) (.seq (.block (.seq .none (.seq .none (.cond (.seq .none .none) .none)))) .none)))))) (.seq .none .none))))
theorem e_table_Table_Get (A : Amb) (t : Option Addr) (key : ByteArray) (h : Heap) (R : Value → Heap → Prop) : F_table_Table_Get A t key h R = semFun A P f_table_Table_Get a_table_Table_Get [.pointer t, .string key] h R := by kernel_rfl
theorem ok_table_Table_Get {A : Amb} {t : Option Addr} {key : ByteArray} {h : Heap} {R : Value → Heap → Prop} (H : F_table_Table_Get A t key h R) : HCalls A P f_table_Table_Get #[.pointer t, .string key] h R :=
 semFun_sound mixed (e_table_Table_Get A t key h R ▸ H)
/-- (*wherry/lsm.DB).lay -/
def F_lsm_DB_lay (A : Amb) (d : Option Addr) (n : Int) (l : Sl) (h : Heap) (R : Value → Heap → Prop) : Prop :=
 HCalls A P f_table_Build #[.slice l.p l.len l.cap] h fun v h1 => ∃ t15a : ByteArray, ∃ t15b : Int, v = .tuple #[.string t15a, .int .i64 t15b] ∧ (
 PIf (t15b != (0 : Int)) (
 R (.tuple #[.pointer none, .int .i64 t15b]) h1) (
 At d fun a =>
 LoadP h1 a fun t24 =>
 HCalls A P f_lsm_file #[.int .i64 n] h1 fun v1 h2 => ∃ t26 : ByteArray, v1 = .string t26 ∧ (
 And (hget h2 a = some (.pointer t24)) <|
 HCalls A P f_box_Box_Append #[.pointer t24, .string t26, .string t15a] h2 fun v2 h3 => ∃ t28 : Int, v2 = .int .i64 t28 ∧ (
 PIf (t28 != (0 : Int)) (
 R (.tuple #[.pointer none, .int .i64 t28]) h3) (
 At d fun a1 =>
 LoadP h3 a1 fun t35 =>
 HCalls A P f_lsm_file #[.int .i64 n] h3 fun v3 h4 => ∃ t37 : ByteArray, v3 = .string t37 ∧ (
 And (hget h4 a1 = some (.pointer t35)) <|
 HCalls A P f_box_Box_Sync #[.pointer t35, .string t37] h4 fun v4 h5 => ∃ t38 : Int, v4 = .int .i64 t38 ∧ (
 PIf (t38 != (0 : Int)) (
 R (.tuple #[.pointer none, .int .i64 t38]) h5) (
 At d fun a2 =>
 LoadP h5 a2 fun t46 =>
 HCalls A P f_lsm_file #[.int .i64 n] h5 fun v5 h6 => ∃ t48 : ByteArray, v5 = .string t48 ∧ (
 And (hget h6 a2 = some (.pointer t46)) <|
 HCalls A P f_box_Box_Read #[.pointer t46, .string t48] h6 fun v6 h7 => ∃ t49a : ByteArray, ∃ t49b : Int, v6 = .tuple #[.string t49a, .int .i64 t49b] ∧ (
 PIf (t49b != (0 : Int)) (
 R (.tuple #[.pointer none, .int .i64 t49b]) h7) (
 HCalls A P f_table_Open #[.string t49a] h7 fun v7 h8 => ∃ t56a : Option Addr, ∃ t56b : Int, v7 = .tuple #[.pointer t56a, .int .i64 t56b] ∧ (
 R (.tuple #[.pointer t56a, .int .i64 t56b]) h8))))))))))))
def a_lsm_DB_lay : Ann := .seq .none (.seq .none (.seq (.seq .none (.cond (.seq .none .none) .none)) (.seq (.seq .none (.seq .none (.cond (.seq .none .none) .none))) (.seq (.seq .none (.seq .none (.cond (.seq .none .none) .none))) (.seq .none (.seq (.seq .none (.cond (.seq .none .none) .none)) (.seq .none .none)))))))
theorem e_lsm_DB_lay (A : Amb) (d : Option Addr) (n : Int) (l : Sl) (h : Heap) (R : Value → Heap → Prop) : F_lsm_DB_lay A d n l h R = semFun A P f_lsm_DB_lay a_lsm_DB_lay [.pointer d, .int .i64 n, .slice l.p l.len l.cap] h R := by kernel_rfl
theorem ok_lsm_DB_lay {A : Amb} {d : Option Addr} {n : Int} {l : Sl} {h : Heap} {R : Value → Heap → Prop} (H : F_lsm_DB_lay A d n l h R) : HCalls A P f_lsm_DB_lay #[.pointer d, .int .i64 n, .slice l.p l.len l.cap] h R :=
 semFun_sound mixed (e_lsm_DB_lay A d n l h R ▸ H)
/-- slices.Collect[wherry/api.Pair] -/
def F_slices_Collect_of_api_Pair (A : Amb) (seq : Value) (h : Heap) (R : Value → Heap → Prop) : Prop :=
 HCalls A P f_slices_AppendSeq_of___api_Pair_api_Pair #[.slice none 0 0, seq] h fun v h1 => ∃ t4 : Sl, v = .slice t4.p t4.len t4.cap ∧ (
 R (.slice t4.p t4.len t4.cap) h1)
def a_slices_Collect_of_api_Pair : Ann := .seq .none (.seq .none .none)
theorem e_slices_Collect_of_api_Pair (A : Amb) (seq : Value) (h : Heap) (R : Value → Heap → Prop) : F_slices_Collect_of_api_Pair A seq h R = semFun A P f_slices_Collect_of_api_Pair a_slices_Collect_of_api_Pair [seq] h R := by kernel_rfl
theorem ok_slices_Collect_of_api_Pair {A : Amb} {seq : Value} {h : Heap} {R : Value → Heap → Prop} (H : F_slices_Collect_of_api_Pair A seq h R) : HCalls A P f_slices_Collect_of_api_Pair #[seq] h R :=
 semFun_sound mixed (e_slices_Collect_of_api_Pair A seq h R ▸ H)
/-- (*wherry/mem.Table).From -/
def F_mem_Table_From (A : Amb) (t : Option Addr) (key : ByteArray) (h : Heap) (R : Value → Heap → Prop) : Prop :=
 New h (.cells #[.pointer t] t_p_mem_Table) fun b h1 =>
 New h1 (.cells #[.string key] t_string) fun b1 h2 =>
 R ((.func (.func f_mem_Table_From_1) #[] #[.pointer (some (⟨b, 0, none⟩ : Addr)), .pointer (some (⟨b1, 0, none⟩ : Addr))])) h2
def a_mem_Table_From : Ann := .seq .none (.seq .none .none)
theorem e_mem_Table_From (A : Amb) (t : Option Addr) (key : ByteArray) (h : Heap) (R : Value → Heap → Prop) : F_mem_Table_From A t key h R = semFun A P f_mem_Table_From a_mem_Table_From [.pointer t, .string key] h R := by kernel_rfl
theorem ok_mem_Table_From {A : Amb} {t : Option Addr} {key : ByteArray} {h : Heap} {R : Value → Heap → Prop} (H : F_mem_Table_From A t key h R) : HCalls A P f_mem_Table_From #[.pointer t, .string key] h R :=
 semFun_sound mixed (e_mem_Table_From A t key h R ▸ H)
/-- slices.Insert[[]*wherry/table.Table,*wherry/table.Table] -/
def F_slices_Insert_of____table_Table__table_Table (A : Amb) (s : Sl) (i : Int) (v : Sl) (h : Heap) (R : Value → Heap → Prop) : Prop :=
 Chk ((0 : Int) ≤ i ∧ i ≤ ((s.len : Nat) : Int)) <|
 PIf (((v.len : Nat) : Int) == (0 : Int)) (
 R (.slice s.p s.len s.cap) h) (
 PIf (i == ((s.len : Nat) : Int)) (
 RunK A P (Builtin.append_ #[t_sl_p_table_Table, t_sl_p_table_Table] t_sl_p_table_Table #[.slice s.p s.len s.cap, .slice v.p v.len v.cap]) h fun v1 h1 => ∃ t25 : Sl, v1 = .slice t25.p t25.len t25.cap ∧ (
 R (.slice t25.p t25.len t25.cap) h1)) (
 PIf (decide ((IntKind.wrap .i64 (((s.len : Nat) : Int) + ((v.len : Nat) : Int))) > ((s.cap : Nat) : Int))) (
 Chk ((0 : Int) ≤ i ∧ i ≤ ((s.cap : Nat) : Int)) <|
 RunK A P (Builtin.append_ #[t_sl_p_table_Table, t_int] t_sl_p_table_Table #[.slice (slOff s.p s.cap 0 1) (i.toNat - 0) (s.cap - 0), .int .i64 (IntKind.wrap .i64 ((IntKind.wrap .i64 (((s.len : Nat) : Int) + ((v.len : Nat) : Int))) - i))]) h fun v2 h2 => ∃ t40 : Sl, v2 = .slice t40.p t40.len t40.cap ∧ (
 Chk ((0 : Int) ≤ i ∧ i ≤ ((t40.len : Nat) : Int)) <|
 RunK A P (Builtin.copy_ #[t_sl_p_table_Table, t_sl_p_table_Table] t_int #[.slice (slOff t40.p t40.cap i.toNat 1) (t40.len - i.toNat) (t40.cap - i.toNat), .slice v.p v.len v.cap]) h2 fun v3 h3 => ∃ t45 : Int, v3 = .int .i64 t45 ∧ (
 Chk ((0 : Int) ≤ (IntKind.wrap .i64 (i + ((v.len : Nat) : Int))) ∧ (IntKind.wrap .i64 (i + ((v.len : Nat) : Int))) ≤ ((t40.len : Nat) : Int)) <|
 Chk ((0 : Int) ≤ i ∧ i ≤ ((s.len : Nat) : Int)) <|
 RunK A P (Builtin.copy_ #[t_sl_p_table_Table, t_sl_p_table_Table] t_int #[.slice (slOff t40.p t40.cap ((IntKind.wrap .i64 (i + ((v.len : Nat) : Int))).toNat) 1) (t40.len - ((IntKind.wrap .i64 (i + ((v.len : Nat) : Int))).toNat)) (t40.cap - ((IntKind.wrap .i64 (i + ((v.len : Nat) : Int))).toNat)), .slice (slOff s.p s.cap i.toNat 1) (s.len - i.toNat) (s.cap - i.toNat)]) h3 fun v4 h4 => ∃ t54 : Int, v4 = .int .i64 t54 ∧ (
 R (.slice t40.p t40.len t40.cap) h4)))) (
 Chk ((0 : Int) ≤ (IntKind.wrap .i64 (((s.len : Nat) : Int) + ((v.len : Nat) : Int))) ∧ (IntKind.wrap .i64 (((s.len : Nat) : Int) + ((v.len : Nat) : Int))) ≤ ((s.cap : Nat) : Int)) <|
 Chk ((0 : Int) ≤ (IntKind.wrap .i64 (i + ((v.len : Nat) : Int))) ∧ (IntKind.wrap .i64 (i + ((v.len : Nat) : Int))) ≤ (((((IntKind.wrap .i64 (((s.len : Nat) : Int) + ((v.len : Nat) : Int))).toNat) - 0) : Nat) : Int)) <|
 ExtK A P f_slices_overlaps_of__table_Table #[.slice v.p v.len v.cap, .slice (slOff (slOff s.p s.cap 0 1) (s.cap - 0) ((IntKind.wrap .i64 (i + ((v.len : Nat) : Int))).toNat) 1) ((((IntKind.wrap .i64 (((s.len : Nat) : Int) + ((v.len : Nat) : Int))).toNat) - 0) - ((IntKind.wrap .i64 (i + ((v.len : Nat) : Int))).toNat)) ((s.cap - 0) - ((IntKind.wrap .i64 (i + ((v.len : Nat) : Int))).toNat))] h fun v5 h5 => ∃ t67 : Bool, v5 = .bool t67 ∧ (
 PIf (!t67) (
 Chk ((0 : Int) ≤ (IntKind.wrap .i64 (i + ((v.len : Nat) : Int))) ∧ (IntKind.wrap .i64 (i + ((v.len : Nat) : Int))) ≤ (((((IntKind.wrap .i64 (((s.len : Nat) : Int) + ((v.len : Nat) : Int))).toNat) - 0) : Nat) : Int)) <|
 Chk ((0 : Int) ≤ i ∧ i ≤ (((((IntKind.wrap .i64 (((s.len : Nat) : Int) + ((v.len : Nat) : Int))).toNat) - 0) : Nat) : Int)) <|
 RunK A P (Builtin.copy_ #[t_sl_p_table_Table, t_sl_p_table_Table] t_int #[.slice (slOff (slOff s.p s.cap 0 1) (s.cap - 0) ((IntKind.wrap .i64 (i + ((v.len : Nat) : Int))).toNat) 1) ((((IntKind.wrap .i64 (((s.len : Nat) : Int) + ((v.len : Nat) : Int))).toNat) - 0) - ((IntKind.wrap .i64 (i + ((v.len : Nat) : Int))).toNat)) ((s.cap - 0) - ((IntKind.wrap .i64 (i + ((v.len : Nat) : Int))).toNat)), .slice (slOff (slOff s.p s.cap 0 1) (s.cap - 0) i.toNat 1) ((((IntKind.wrap .i64 (((s.len : Nat) : Int) + ((v.len : Nat) : Int))).toNat) - 0) - i.toNat) ((s.cap - 0) - i.toNat)]) h5 fun v6 h6 => ∃ t77 : Int, v6 = .int .i64 t77 ∧ (
 Chk ((0 : Int) ≤ i ∧ i ≤ (((((IntKind.wrap .i64 (((s.len : Nat) : Int) + ((v.len : Nat) : Int))).toNat) - 0) : Nat) : Int)) <|
 RunK A P (Builtin.copy_ #[t_sl_p_table_Table, t_sl_p_table_Table] t_int #[.slice (slOff (slOff s.p s.cap 0 1) (s.cap - 0) i.toNat 1) ((((IntKind.wrap .i64 (((s.len : Nat) : Int) + ((v.len : Nat) : Int))).toNat) - 0) - i.toNat) ((s.cap - 0) - i.toNat), .slice v.p v.len v.cap]) h6 fun v7 h7 => ∃ t82 : Int, v7 = .int .i64 t82 ∧ (
 R (.slice (slOff s.p s.cap 0 1) (((IntKind.wrap .i64 (((s.len : Nat) : Int) + ((v.len : Nat) : Int))).toNat) - 0) (s.cap - 0)) h7))) (
 Chk ((0 : Int) ≤ ((s.len : Nat) : Int) ∧ ((s.len : Nat) : Int) ≤ (((((IntKind.wrap .i64 (((s.len : Nat) : Int) + ((v.len : Nat) : Int))).toNat) - 0) : Nat) : Int)) <|
 RunK A P (Builtin.copy_ #[t_sl_p_table_Table, t_sl_p_table_Table] t_int #[.slice (slOff (slOff s.p s.cap 0 1) (s.cap - 0) (((s.len : Nat) : Int).toNat) 1) ((((IntKind.wrap .i64 (((s.len : Nat) : Int) + ((v.len : Nat) : Int))).toNat) - 0) - (((s.len : Nat) : Int).toNat)) ((s.cap - 0) - (((s.len : Nat) : Int).toNat)), .slice v.p v.len v.cap]) h5 fun v8 h8 => ∃ t88 : Int, v8 = .int .i64 t88 ∧ (
 Chk ((0 : Int) ≤ i ∧ i ≤ (((((IntKind.wrap .i64 (((s.len : Nat) : Int) + ((v.len : Nat) : Int))).toNat) - 0) : Nat) : Int)) <|
 HCalls A P f_slices_rotateRight_of__table_Table #[.slice (slOff (slOff s.p s.cap 0 1) (s.cap - 0) i.toNat 1) ((((IntKind.wrap .i64 (((s.len : Nat) : Int) + ((v.len : Nat) : Int))).toNat) - 0) - i.toNat) ((s.cap - 0) - i.toNat), .int .i64 ((v.len : Nat) : Int)] h8 fun v9 h9 => v9 = .tuple #[] ∧ (
 R (.slice (slOff s.p s.cap 0 1) (((IntKind.wrap .i64 (((s.len : Nat) : Int) + ((v.len : Nat) : Int))).toNat) - 0) (s.cap - 0)) h9)))))))
def a_slices_Insert_of____table_Table__table_Table : Ann := .seq .none (.seq .none (.seq .none (.seq (.seq .none (.cond (.seq .none .none) .none)) (.seq .none (.seq (.seq .none (.cond (.seq .none .none) .none)) (.seq (.seq .none (.cond (.seq .none (.seq .none (.seq .none (.seq .none .none)))) .none)) (.seq .none (.seq (.seq .none (.cond (.seq .none (.seq .none (.seq .none .none))) .none)) (.seq .none (.seq .none (.seq .none .none)))))))))))
theorem e_slices_Insert_of____table_Table__table_Table (A : Amb) (s : Sl) (i : Int) (v : Sl) (h : Heap) (R : Value → Heap → Prop) : F_slices_Insert_of____table_Table__table_Table A s i v h R = semFun A P f_slices_Insert_of____table_Table__table_Table a_slices_Insert_of____table_Table__table_Table [.slice s.p s.len s.cap, .int .i64 i, .slice v.p v.len v.cap] h R := by kernel_rfl
theorem ok_slices_Insert_of____table_Table__table_Table {A : Amb} {s : Sl} {i : Int} {v : Sl} {h : Heap} {R : Value → Heap → Prop} (H : F_slices_Insert_of____table_Table__table_Table A s i v h R) : HCalls A P f_slices_Insert_of____table_Table__table_Table #[.slice s.p s.len s.cap, .int .i64 i, .slice v.p v.len v.cap] h R :=
 semFun_sound mixed (e_slices_Insert_of____table_Table__table_Table A s i v h R ▸ H)
/-- (*wherry/lsm.DB).told -/
def F_lsm_DB_told (A : Amb) (d : Option Addr) (h : Heap) (R : Value → Heap → Prop) : Prop :=
 At d fun a =>
 LoadP h (a.add 2) fun t9 =>
 HCalls A P f_lsm_DB_note #[.pointer d] h fun v h1 => ∃ t11 : ByteArray, v = .string t11 ∧ (
 And (hget h1 (a.add 2) = some (.pointer t9)) <|
 HCalls A P f_wal_Log_Append #[.pointer t9, .string t11] h1 fun v1 h2 => ∃ t12 : Int, v1 = .int .i64 t12 ∧ (
 PIf (t12 != (0 : Int)) (
 R (.int .i64 t12) h2) (
 At d fun a1 =>
 LoadP h2 (a1.add 2) fun t20 =>
 HCalls A P f_wal_Log_Rotate #[.pointer t20] h2 fun v2 h3 => ∃ t21a : Int, ∃ t21b : Int, v2 = .tuple #[.int .i64 t21a, .int .i64 t21b] ∧ (
 PIf (t21b != (0 : Int)) (
 R (.int .i64 t21b) h3) (
 At d fun a2 =>
 LoadP h3 (a2.add 2) fun t30 =>
 HCalls A P f_wal_Log_Drop #[.pointer t30, .int .i64 (IntKind.wrap .i64 (t21a - (1 : Int)))] h3 fun v3 h4 => ∃ t33 : Int, v3 = .int .i64 t33 ∧ (
 R (.int .i64 t33) h4))))))
def a_lsm_DB_told : Ann := .seq .none (.seq (.seq .none (.seq .none (.cond (.seq .none .none) .none))) (.seq .none (.seq (.seq .none (.cond (.seq .none .none) .none)) (.seq .none .none))))
theorem e_lsm_DB_told (A : Amb) (d : Option Addr) (h : Heap) (R : Value → Heap → Prop) : F_lsm_DB_told A d h R = semFun A P f_lsm_DB_told a_lsm_DB_told [.pointer d] h R := by kernel_rfl
theorem ok_lsm_DB_told {A : Amb} {d : Option Addr} {h : Heap} {R : Value → Heap → Prop} (H : F_lsm_DB_told A d h R) : HCalls A P f_lsm_DB_told #[.pointer d] h R :=
 semFun_sound mixed (e_lsm_DB_told A d h R ▸ H)
/-- (*wherry/wal.Log).Drop -/
def F_wal_Log_Drop (A : Amb) (l : Option Addr) (upto : Int) (h : Heap) (R : Value → Heap → Prop) : Prop :=
 Join (fun (r : Bool × Unit) h1 =>
 PIf r.1 (
 R (.int .i64 1) h1) (
 At l fun a =>
 LoadP h1 a fun t24 =>
 At l fun a1 =>
 LoadS h1 (a1.add 1) fun t28 =>
 HCalls A P f_wal_segments #[.pointer t24, .string t28] h1 fun v h2 => ∃ t29a : Sl, ∃ t29b : Int, v = .tuple #[.slice t29a.p t29a.len t29a.cap, .int .i64 t29b] ∧ (
 PIf (t29b != (0 : Int)) (
 R (.int .i64 t29b) h2) (
 Loop (fun K1 (s : Int × Unit) h3 =>
 PIf (decide (s.1 < ((t29a.len : Nat) : Int))) (
 Join (fun (s1 : Unit) h4 =>
 K1 ((IntKind.wrap .i64 (s.1 + (1 : Int))), ()) h4) fun K2 =>
 Idx t29a.p t29a.len s.1 fun a2 =>
 LoadI .i64 h3 (a2.add (s.1.toNat * 1)) fun t40 =>
 PIf (decide (t40 ≤ upto)) (
 At l fun a3 =>
 LoadP h3 a3 fun t47 =>
 At l fun a4 =>
 LoadS h3 (a4.add 1) fun t51 =>
 HCalls A P f_wal_file #[.string t51, .int .i64 t40] h3 fun v1 h5 => ∃ t53 : ByteArray, v1 = .string t53 ∧ (
 And (hget h5 a3 = some (.pointer t47)) <|
 HCalls A P f_box_Box_Delete #[.pointer t47, .string t53] h5 fun v2 h6 => ∃ t54 : Int, v2 = .int .i64 t54 ∧ (
 PIf (t54 != (0 : Int)) (
 R (.int .i64 t54) h6) (
 K2 () h6)))) (
 K2 () h3)) (
 R (.int .i64 0) h3)) (0, ()) h2)))) fun K =>
 PIf (l.isNone) (
 K (true, ()) h) (
 At l fun a5 =>
 LoadI .i64 h (a5.add 2) fun t17 =>
 K ((decide (upto ≥ t17)), ()) h)
def a_wal_Log_Drop : Ann := .seq .none (.seq (.seq (.reg [(19, .one .bool)] [0, 1]) (.cond (.seq .none .none) .none)) (.seq .none (.seq (.seq .none (.cond (.seq .none .none) .none)) (.seq (.seq .none (.block (.loop [(37, .one (.int .i64))] [0, 1, 35, 36] (.seq .none (.seq (.cond .none .none) (.seq (.blockJ [] [0, 1, 35, 36, 37] (.seq .none (.seq .none (.cond (.seq .none (.seq .none (.cond (.seq .none .none) .none))) .none)))) .none)))))) (.seq .none .none)))))
theorem e_wal_Log_Drop (A : Amb) (l : Option Addr) (upto : Int) (h : Heap) (R : Value → Heap → Prop) : F_wal_Log_Drop A l upto h R = semFun A P f_wal_Log_Drop a_wal_Log_Drop [.pointer l, .int .i64 upto] h R := by kernel_rfl
theorem ok_wal_Log_Drop {A : Amb} {l : Option Addr} {upto : Int} {h : Heap} {R : Value → Heap → Prop} (H : F_wal_Log_Drop A l upto h R) : HCalls A P f_wal_Log_Drop #[.pointer l, .int .i64 upto] h R :=
 semFun_sound mixed (e_wal_Log_Drop A l upto h R ▸ H)
/-- (*wherry/table.Table).From -/
def F_table_Table_From (A : Amb) (t : Option Addr) (key : ByteArray) (h : Heap) (R : Value → Heap → Prop) : Prop :=
 New h (.cells #[.pointer t] t_p_table_Table) fun b h1 =>
 New h1 (.cells #[.string key] t_string) fun b1 h2 =>
 R ((.func (.func f_table_Table_From_1) #[] #[.pointer (some (⟨b, 0, none⟩ : Addr)), .pointer (some (⟨b1, 0, none⟩ : Addr))])) h2
def a_table_Table_From : Ann := .seq .none (.seq .none .none)
theorem e_table_Table_From (A : Amb) (t : Option Addr) (key : ByteArray) (h : Heap) (R : Value → Heap → Prop) : F_table_Table_From A t key h R = semFun A P f_table_Table_From a_table_Table_From [.pointer t, .string key] h R := by kernel_rfl
theorem ok_table_Table_From {A : Amb} {t : Option Addr} {key : ByteArray} {h : Heap} {R : Value → Heap → Prop} (H : F_table_Table_From A t key h R) : HCalls A P f_table_Table_From #[.pointer t, .string key] h R :=
 semFun_sound mixed (e_table_Table_From A t key h R ▸ H)
/-- wherry/merge.All -/
def F_merge_All (A : Amb) (l : Sl) (h : Heap) (R : Value → Heap → Prop) : Prop :=
 New h (.cells #[.slice l.p l.len l.cap] t_sl_iter_Seq_wherry_api_Pair) fun b h1 =>
 R ((.func (.func f_merge_All_1) #[] #[.pointer (some (⟨b, 0, none⟩ : Addr))])) h1
def a_merge_All : Ann := .seq .none (.seq .none .none)
theorem e_merge_All (A : Amb) (l : Sl) (h : Heap) (R : Value → Heap → Prop) : F_merge_All A l h R = semFun A P f_merge_All a_merge_All [.slice l.p l.len l.cap] h R := by kernel_rfl
theorem ok_merge_All {A : Amb} {l : Sl} {h : Heap} {R : Value → Heap → Prop} (H : F_merge_All A l h R) : HCalls A P f_merge_All #[.slice l.p l.len l.cap] h R :=
 semFun_sound mixed (e_merge_All A l h R ▸ H)
/-- (*wherry/box.Box).Delete -/
def F_box_Box_Delete (A : Amb) (b : Option Addr) (name : ByteArray) (h : Heap) (R : Value → Heap → Prop) : Prop :=
 HCalls A P f_box_Box_off #[.pointer b] h fun v h1 => ∃ t7 : Bool, v = .bool t7 ∧ (
 PIf t7 (
 R (.int .i64 30) h1) (
 At b fun a =>
 LoadM h1 a fun t12 =>
 RunK A P (Instr.lookup t_map_string_p_box_file (.map t12) (.string name) false) h1 fun v1 h2 => ∃ t14 : Option Addr, v1 = .pointer t14 ∧ (
 PIf (t14.isNone) (
 R (.int .i64 31) h2) (
 HCalls A P f_box_Box_burn #[.pointer b] h2 fun v2 h3 => ∃ t18 : Bool, v2 = .bool t18 ∧ (
 PIf (!t18) (
 R (.int .i64 30) h3) (
 At b fun a1 =>
 LoadM h3 a1 fun t23 =>
 RunK A P (Builtin.delete_ #[t_map_string_p_box_file, t_string] t_ #[.map t23, .string name]) h3 fun v3 h4 => v3 = .tuple #[] ∧ (
 R (.int .i64 0) h4)))))))
def a_box_Box_Delete : Ann := .seq .none (.seq (.block (.seq .none (.cond (.seq .none .none) (.seq .none (.cond (.seq .none .none) (.seq .none (.cond (.seq .none .none) .none))))))) (.seq .none (.seq .none .none)))
theorem e_box_Box_Delete (A : Amb) (b : Option Addr) (name : ByteArray) (h : Heap) (R : Value → Heap → Prop) : F_box_Box_Delete A b name h R = semFun A P f_box_Box_Delete a_box_Box_Delete [.pointer b, .string name] h R := by kernel_rfl
theorem ok_box_Box_Delete {A : Amb} {b : Option Addr} {name : ByteArray} {h : Heap} {R : Value → Heap → Prop} (H : F_box_Box_Delete A b name h R) : HCalls A P f_box_Box_Delete #[.pointer b, .string name] h R :=
 semFun_sound mixed (e_box_Box_Delete A b name h R ▸ H)
/-- (*wherry/box.Box).off -/
def F_box_Box_off (A : Amb) (b : Option Addr) (h : Heap) (R : Value → Heap → Prop) : Prop :=
 PIf (b.isNone) (
 R (.bool true) h) (
 At b fun a =>
 LoadB h (a.add 2) fun t9 =>
 R (.bool t9) h)
def a_box_Box_off : Ann := .seq .none (.seq .none .none)
theorem e_box_Box_off (A : Amb) (b : Option Addr) (h : Heap) (R : Value → Heap → Prop) : F_box_Box_off A b h R = semFun A P f_box_Box_off a_box_Box_off [.pointer b] h R := by kernel_rfl
theorem ok_box_Box_off {A : Amb} {b : Option Addr} {h : Heap} {R : Value → Heap → Prop} (H : F_box_Box_off A b h R) : HCalls A P f_box_Box_off #[.pointer b] h R :=
 semFun_sound mixed (e_box_Box_off A b h R ▸ H)
/-- wherry/box.wrong -/
def F_box_wrong (A : Amb) (name : ByteArray) (h : Heap) (R : Value → Heap → Prop) : Prop :=
 PIf (sEq name (⟨#[]⟩ : ByteArray)) (
 R (.bool true) h) (
 R (.bool (decide ((name.size : Int) > (32 : Int)))) h)
def a_box_wrong : Ann := .seq .none (.seq .none .none)
theorem e_box_wrong (A : Amb) (name : ByteArray) (h : Heap) (R : Value → Heap → Prop) : F_box_wrong A name h R = semFun A P f_box_wrong a_box_wrong [.string name] h R := by kernel_rfl
theorem ok_box_wrong {A : Amb} {name : ByteArray} {h : Heap} {R : Value → Heap → Prop} (H : F_box_wrong A name h R) : HCalls A P f_box_wrong #[.string name] h R :=
 semFun_sound mixed (e_box_wrong A name h R ▸ H)
/-- (*wherry/box.Box).burn -/
def F_box_Box_burn (A : Amb) (b : Option Addr) (h : Heap) (R : Value → Heap → Prop) : Prop :=
 At b fun a =>
 LoadI .i64 h (a.add 1) fun t6 =>
 PIf (t6 == (0 : Int)) (
 At b fun a1 =>
 Store h (a1.add 2) (.bool true) fun h1 =>
 R (.bool false) h1) (
 Join (fun (s : Unit) h2 =>
 R (.bool true) h2) fun K =>
 At b fun a2 =>
 LoadI .i64 h (a2.add 1) fun t14 =>
 PIf (decide (t14 > (0 : Int))) (
 At b fun a3 =>
 LoadI .i64 h (a3.add 1) fun t19 =>
 At b fun a4 =>
 Store h (a4.add 1) (.int .i64 (IntKind.wrap .i64 (t19 - (1 : Int)))) fun h3 =>
 K () h3) (
 K () h))
def a_box_Box_burn : Ann := .seq .none (.seq (.seq .none (.cond (.seq .none (.seq .none .none)) .none)) (.seqJ [] [] (.seq .none (.cond .none .none)) (.seq .none .none)))
theorem e_box_Box_burn (A : Amb) (b : Option Addr) (h : Heap) (R : Value → Heap → Prop) : F_box_Box_burn A b h R = semFun A P f_box_Box_burn a_box_Box_burn [.pointer b] h R := by kernel_rfl
theorem ok_box_Box_burn {A : Amb} {b : Option Addr} {h : Heap} {R : Value → Heap → Prop} (H : F_box_Box_burn A b h R) : HCalls A P f_box_Box_burn #[.pointer b] h R :=
 semFun_sound mixed (e_box_Box_burn A b h R ▸ H)
/-- wherry/wherryref05.Wrong -/
def F_wherryref05_Wrong (A : Amb) (p_0 : ByteArray) (p_1 : ByteArray) (p_2 : Bool) (h : Heap) (R : Value → Heap → Prop) : Prop :=
 New h (.cells #[.string p_0, .string p_1, .bool p_2] t_api_Pair) fun b h1 =>
 Join (fun (r : Bool × Unit) h2 =>
 PIf r.1 (
 R (.int .i64 1) h2) (
 Join (fun (r1 : Bool × Unit) h3 =>
 PIf r1.1 (
 R (.int .i64 2) h3) (
 R (.int .i64 0) h3)) fun K1 =>
 LoadS h2 (⟨b, 0, none⟩ : Addr) fun t16 =>
 PIf (decide ((t16.size : Int) > (64 : Int))) (
 K1 (true, ()) h2) (
 LoadS h2 ((⟨b, 0, none⟩ : Addr).add 1) fun t21 =>
 K1 ((decide ((t21.size : Int) > (8192 : Int))), ()) h2))) fun K =>
 LoadS h1 (⟨b, 0, none⟩ : Addr) fun t4 =>
 PIf (sEq t4 (⟨#[]⟩ : ByteArray)) (
 K (true, ()) h1) (
 LoadB h1 ((⟨b, 0, none⟩ : Addr).add 2) fun t8 =>
 PIf t8 (
 LoadS h1 ((⟨b, 0, none⟩ : Addr).add 1) fun t11 =>
 K ((!sEq t11 (⟨#[]⟩ : ByteArray)), ()) h1) (
 K (false, ()) h1))
def a_wherryref05_Wrong : Ann := .seq .none (.seq (.seq (.reg [(14, .one .bool)] [1]) (.cond (.seq .none .none) .none)) (.seq (.seq (.reg [(24, .one .bool)] []) (.cond (.seq .none .none) .none)) (.seq .none .none)))
theorem e_wherryref05_Wrong (A : Amb) (p_0 : ByteArray) (p_1 : ByteArray) (p_2 : Bool) (h : Heap) (R : Value → Heap → Prop) : F_wherryref05_Wrong A p_0 p_1 p_2 h R = semFun A P f_wherryref05_Wrong a_wherryref05_Wrong [.agg #[.string p_0, .string p_1, .bool p_2]] h R := by kernel_rfl
theorem ok_wherryref05_Wrong {A : Amb} {p_0 : ByteArray} {p_1 : ByteArray} {p_2 : Bool} {h : Heap} {R : Value → Heap → Prop} (H : F_wherryref05_Wrong A p_0 p_1 p_2 h R) : HCalls A P f_wherryref05_Wrong #[.agg #[.string p_0, .string p_1, .bool p_2]] h R :=
 semFun_sound mixed (e_wherryref05_Wrong A p_0 p_1 p_2 h R ▸ H)
/-- (wherry/wherryref09.Map).at -/
def F_wherryref09_Map_at (A : Amb) (m_0 : Sl) (key : ByteArray) (h : Heap) (R : Value → Heap → Prop) : Prop :=
 New h (.cells #[.slice m_0.p m_0.len m_0.cap] t_wherryref09_Map) fun b h1 =>
 Loop (fun K (s : Int × Unit) h2 =>
 Join (fun (r : Bool × Unit) h3 =>
 PIf r.1 (
 K ((IntKind.wrap .i64 (s.1 + (1 : Int))), ()) h3) (
 LoadL h3 (⟨b, 0, none⟩ : Addr) fun t27 =>
 PIf (decide (s.1 < ((t27.len : Nat) : Int))) (
 LoadL h3 (⟨b, 0, none⟩ : Addr) fun t32 =>
 Idx t32.p t32.len s.1 fun a =>
 LoadS h3 (a.add (s.1.toNat * 3)) fun t36 =>
 R (.tuple #[.int .i64 s.1, .bool (sEq t36 key)]) h3) (
 R (.tuple #[.int .i64 s.1, .bool false]) h3))) fun K1 =>
 LoadL h2 (⟨b, 0, none⟩ : Addr) fun t9 =>
 PIf (decide (s.1 < ((t9.len : Nat) : Int))) (
 LoadL h2 (⟨b, 0, none⟩ : Addr) fun t14 =>
 Idx t14.p t14.len s.1 fun a1 =>
 LoadS h2 (a1.add (s.1.toNat * 3)) fun t18 =>
 K1 ((sLt t18 key), ()) h2) (
 K1 (false, ()) h2)) (0, ()) h1
def a_wherryref09_Map_at : Ann := .seq .none (.seq .none (.seq (.block (.loop [(6, .one (.int .i64))] [1, 2] (.seq (.seq (.reg [(21, .one .bool)] [1, 2, 6]) (.cond .none .none)) (.block .none)))) (.seq .none .none)))
theorem e_wherryref09_Map_at (A : Amb) (m_0 : Sl) (key : ByteArray) (h : Heap) (R : Value → Heap → Prop) : F_wherryref09_Map_at A m_0 key h R = semFun A P f_wherryref09_Map_at a_wherryref09_Map_at [.agg #[.slice m_0.p m_0.len m_0.cap], .string key] h R := by kernel_rfl
theorem ok_wherryref09_Map_at {A : Amb} {m_0 : Sl} {key : ByteArray} {h : Heap} {R : Value → Heap → Prop} (H : F_wherryref09_Map_at A m_0 key h R) : HCalls A P f_wherryref09_Map_at #[.agg #[.slice m_0.p m_0.len m_0.cap], .string key] h R :=
 semFun_sound mixed (e_wherryref09_Map_at A m_0 key h R ▸ H)
/-- wherry/wal.segments -/
def F_wal_segments (A : Amb) (b : Option Addr) (name : ByteArray) (h : Heap) (R : Value → Heap → Prop) : Prop :=
 HCalls A P f_box_Box_List #[.pointer b] h fun v h1 => ∃ t14a : Sl, ∃ t14b : Int, v = .tuple #[.slice t14a.p t14a.len t14a.cap, .int .i64 t14b] ∧ (
 PIf (t14b != (0 : Int)) (
 R (.tuple #[.slice none 0 0, .int .i64 t14b]) h1) (
 Loop (fun K (s : Sl × Int × Unit) h2 =>
 PIf (decide (s.2.1 < ((t14a.len : Nat) : Int))) (
 Join (fun (s1 : Sl × Unit) h3 =>
 K ((⟨s1.1.p, s1.1.len, s1.1.cap⟩ : Sl), (IntKind.wrap .i64 (s.2.1 + (1 : Int))), ()) h3) fun K1 =>
 Idx t14a.p t14a.len s.2.1 fun a =>
 LoadS h2 (a.add (s.2.1.toNat * 1)) fun t25 =>
 HCalls A P f_wal_number #[.string name, .string t25] h2 fun v1 h4 => ∃ t28 : Int, v1 = .int .i64 t28 ∧ (
 PIf (decide (t28 > (0 : Int))) (
 New h4 (.cells #[.int .i64 t28] t_int) fun b1 h5 =>
 RunK A P (Builtin.append_ #[t_sl_int, t_sl_int] t_sl_int #[.slice s.1.p s.1.len s.1.cap, .slice (some (⟨b1, 0, none⟩ : Addr)) 1 1]) h5 fun v2 h6 => ∃ t34 : Sl, v2 = .slice t34.p t34.len t34.cap ∧ (
 K1 ((⟨t34.p, t34.len, t34.cap⟩ : Sl), ()) h6)) (
 K1 ((⟨s.1.p, s.1.len, s.1.cap⟩ : Sl), ()) h4))) (
 HCalls A P f_slices_Sort_of___int_int #[.slice s.1.p s.1.len s.1.cap] h2 fun v3 h7 => v3 = .tuple #[] ∧ (
 R (.tuple #[.slice s.1.p s.1.len s.1.cap, .int .i64 0]) h7))) ((⟨none, 0, 0⟩ : Sl), 0, ()) h1))
def a_wal_segments : Ann := .seq .none (.seq .none (.seq (.seq .none (.cond (.seq .none .none) .none)) (.seq .none (.seq (.seq .none (.block (.loop [(8, .one .sl), (22, .one (.int .i64))] [1, 20, 21] (.seq .none (.seq (.cond .none .none) (.seq (.blockJ [(8, .one .sl)] [1, 20, 21, 22] (.seq .none (.seq .none (.seq .none (.cond .none .none))))) .none)))))) (.seq .none (.seq .none .none))))))
theorem e_wal_segments (A : Amb) (b : Option Addr) (name : ByteArray) (h : Heap) (R : Value → Heap → Prop) : F_wal_segments A b name h R = semFun A P f_wal_segments a_wal_segments [.pointer b, .string name] h R := by kernel_rfl
theorem ok_wal_segments {A : Amb} {b : Option Addr} {name : ByteArray} {h : Heap} {R : Value → Heap → Prop} (H : F_wal_segments A b name h R) : HCalls A P f_wal_segments #[.pointer b, .string name] h R :=
 semFun_sound mixed (e_wal_segments A b name h R ▸ H)
/-- wherry/wal.file -/
def F_wal_file (A : Amb) (name : ByteArray) (seg : Int) (h : Heap) (R : Value → Heap → Prop) : Prop :=
 HCalls A P f_strconv_Itoa #[.int .i64 seg] h fun v h1 => ∃ t7 : ByteArray, v = .string t7 ∧ (
 HCalls A P f_strings_Repeat #[.string (⟨#[48]⟩ : ByteArray), .int .i64 (if ((IntKind.wrap .i64 ((8 : Int) - (t7.size : Int))) : Int) > 0 then (IntKind.wrap .i64 ((8 : Int) - (t7.size : Int))) else 0)] h1 fun v1 h2 => ∃ t13 : ByteArray, v1 = .string t13 ∧ (
 Chk (((name.size + t13.size : Nat) : Int) ≤ IntKind.i64.max) <|
 Chk ((((name ++ t13).size + t7.size : Nat) : Int) ≤ IntKind.i64.max) <|
 R (.string ((name ++ t13) ++ t7)) h2))
def a_wal_file : Ann := .seq .none (.seq .none (.seq .none .none))
theorem e_wal_file (A : Amb) (name : ByteArray) (seg : Int) (h : Heap) (R : Value → Heap → Prop) : F_wal_file A name seg h R = semFun A P f_wal_file a_wal_file [.string name, .int .i64 seg] h R := by kernel_rfl
theorem ok_wal_file {A : Amb} {name : ByteArray} {seg : Int} {h : Heap} {R : Value → Heap → Prop} (H : F_wal_file A name seg h R) : HCalls A P f_wal_file #[.string name, .int .i64 seg] h R :=
 semFun_sound mixed (e_wal_file A name seg h R ▸ H)
/-- wherry/frame.Scan -/
def F_frame_Scan (A : Amb) (s : ByteArray) (h : Heap) (R : Value → Heap → Prop) : Prop :=
 Loop (fun K (s1 : Sl × ByteArray × Unit) h1 =>
 HCalls A P f_frame_Next #[.string s1.2.1] h1 fun v h2 => ∃ t12a : ByteArray, ∃ t12b : ByteArray, ∃ t12c : Int, v = .tuple #[.string t12a, .string t12b, .int .i64 t12c] ∧ (
 PIf (t12c == (0 : Int)) (
 New h2 (.cells #[.string t12a] t_string) fun b h3 =>
 RunK A P (Builtin.append_ #[t_sl_string, t_sl_string] t_sl_string #[.slice s1.1.p s1.1.len s1.1.cap, .slice (some (⟨b, 0, none⟩ : Addr)) 1 1]) h3 fun v1 h4 => ∃ t21 : Sl, v1 = .slice t21.p t21.len t21.cap ∧ (
 K ((⟨t21.p, t21.len, t21.cap⟩ : Sl), t12b, ()) h4)) (
 R (.tuple #[.slice s1.1.p s1.1.len s1.1.cap, .int .i64 (IntKind.wrap .i64 ((s.size : Int) - (s1.2.1.size : Int)))]) h2))) ((⟨none, 0, 0⟩ : Sl), s, ()) h
def a_frame_Scan : Ann := .seq .none (.scope [(4, .one .sl), (5, .one .str)] [0] .none .none (.seq .none (.seq (.seq .none (.cond (.seq .none (.seq .none .none)) .none)) (.seq .none .none))))
theorem e_frame_Scan (A : Amb) (s : ByteArray) (h : Heap) (R : Value → Heap → Prop) : F_frame_Scan A s h R = semFun A P f_frame_Scan a_frame_Scan [.string s] h R := by kernel_rfl
theorem ok_frame_Scan {A : Amb} {s : ByteArray} {h : Heap} {R : Value → Heap → Prop} (H : F_frame_Scan A s h R) : HCalls A P f_frame_Scan #[.string s] h R :=
 semFun_sound mixed (e_frame_Scan A s h R ▸ H)
/-- (*wherry/vary.Reader).Num -/
def F_vary_Reader_Num (A : Amb) (r : Option Addr) (h : Heap) (R : Value → Heap → Prop) : Prop :=
 Join (fun (r1 : Bool × Unit) h1 =>
 PIf r1.1 (
 R (.int .u64 0) h1) (
 At r fun a =>
 LoadS h1 a fun t18 =>
 HCalls A P f_vary_Get #[.string t18] h1 fun v h2 => ∃ t19a : Int, ∃ t19b : ByteArray, ∃ t19c : Bool, v = .tuple #[.int .u64 t19a, .string t19b, .bool t19c] ∧ (
 At r fun a1 =>
 Store h2 a1 (.string t19b) fun h3 =>
 At r fun a2 =>
 Store h3 (a2.add 1) (.bool (!t19c)) fun h4 =>
 R (.int .u64 t19a) h4))) fun K =>
 PIf (r.isNone) (
 K (true, ()) h) (
 At r fun a3 =>
 LoadB h (a3.add 1) fun t12 =>
 K (t12, ()) h)
def a_vary_Reader_Num : Ann := .seq .none (.seq (.seq (.reg [(13, .one .bool)] [0]) (.cond (.seq .none .none) .none)) (.seq .none (.seq .none (.seq .none .none))))
theorem e_vary_Reader_Num (A : Amb) (r : Option Addr) (h : Heap) (R : Value → Heap → Prop) : F_vary_Reader_Num A r h R = semFun A P f_vary_Reader_Num a_vary_Reader_Num [.pointer r] h R := by kernel_rfl
theorem ok_vary_Reader_Num {A : Amb} {r : Option Addr} {h : Heap} {R : Value → Heap → Prop} (H : F_vary_Reader_Num A r h R) : HCalls A P f_vary_Reader_Num #[.pointer r] h R :=
 semFun_sound mixed (e_vary_Reader_Num A r h R ▸ H)
/-- (*wherry/vary.Reader).Text -/
def F_vary_Reader_Text (A : Amb) (r : Option Addr) (h : Heap) (R : Value → Heap → Prop) : Prop :=
 HCalls A P f_vary_Reader_Num #[.pointer r] h fun v h1 => ∃ t5 : Int, v = .int .u64 t5 ∧ (
 Join (fun (r1 : Bool × Unit) h2 =>
 PIf r1.1 (
 R (.string (⟨#[]⟩ : ByteArray)) h2) (
 HCalls A P f_vary_Reader_Take #[.pointer r, .int .i64 (IntKind.wrap .i64 (if (1099511627776 : Int) < t5 then 1099511627776 else t5))] h2 fun v1 h3 => ∃ t18 : ByteArray, v1 = .string t18 ∧ (
 R (.string t18) h3))) fun K =>
 PIf (r.isNone) (
 K (true, ()) h1) (
 At r fun a =>
 LoadB h1 (a.add 1) fun t12 =>
 K (t12, ()) h1))
def a_vary_Reader_Text : Ann := .seq .none (.seq .none (.seq (.seq (.reg [(13, .one .bool)] [0, 3]) (.cond (.seq .none .none) .none)) (.seq .none .none)))
theorem e_vary_Reader_Text (A : Amb) (r : Option Addr) (h : Heap) (R : Value → Heap → Prop) : F_vary_Reader_Text A r h R = semFun A P f_vary_Reader_Text a_vary_Reader_Text [.pointer r] h R := by kernel_rfl
theorem ok_vary_Reader_Text {A : Amb} {r : Option Addr} {h : Heap} {R : Value → Heap → Prop} (H : F_vary_Reader_Text A r h R) : HCalls A P f_vary_Reader_Text #[.pointer r] h R :=
 semFun_sound mixed (e_vary_Reader_Text A r h R ▸ H)
/-- wherry/table.pairs -/
def F_table_pairs (A : Amb) (block : ByteArray) (h : Heap) (R : Value → Heap → Prop) : Prop :=
 HCalls A P f_vary_Read #[.string block] h fun v h1 => ∃ t9 : Option Addr, v = .pointer t9 ∧ (
 Loop (fun K (s : Sl × Unit) h2 =>
 HCalls A P f_vary_Reader_End #[.pointer t9] h2 fun v1 h3 => ∃ t11 : Bool, v1 = .bool t11 ∧ (
 PIf (!t11) (
 HCalls A P f_vary_Reader_Text #[.pointer t9] h3 fun v2 h4 => ∃ t14 : ByteArray, v2 = .string t14 ∧ (
 New h4 (.cells #[.string (⟨#[]⟩ : ByteArray), .string (⟨#[]⟩ : ByteArray), .bool false] t_api_Pair) fun b h5 =>
 Store h5 (⟨b, 0, none⟩ : Addr) (.string t14) fun h6 =>
 Store h6 ((⟨b, 0, none⟩ : Addr).add 1) (.string (⟨#[]⟩ : ByteArray)) fun h7 =>
 Store h7 ((⟨b, 0, none⟩ : Addr).add 2) (.bool false) fun h8 =>
 HCalls A P f_vary_Reader_Int #[.pointer t9, .int .i64 8193] h8 fun v3 h9 => ∃ t17 : Int, v3 = .int .i64 t17 ∧ (
 Join (fun (s1 : Unit) h10 =>
 HCalls A P f_vary_Reader_Take #[.pointer t9, .int .i64 (if ((IntKind.wrap .i64 (t17 - (1 : Int))) : Int) > 0 then (IntKind.wrap .i64 (t17 - (1 : Int))) else 0)] h10 fun v4 h11 => ∃ t25 : ByteArray, v4 = .string t25 ∧ (
 Store h11 ((⟨b, 0, none⟩ : Addr).add 1) (.string t25) fun h12 =>
 Join (fun (r : Bool × Unit) h13 =>
 PIf r.1 (
 R (.tuple #[.slice none 0 0, .bool false]) h13) (
 LoadS h13 (⟨b, 0, none⟩ : Addr) fun t41_0 =>
 LoadS h13 ((⟨b, 0, none⟩ : Addr).add 1) fun t41_1 =>
 LoadB h13 ((⟨b, 0, none⟩ : Addr).add 2) fun t41_2 =>
 New h13 (.cells #[.string t41_0, .string t41_1, .bool t41_2] t_api_Pair) fun b1 h14 =>
 RunK A P (Builtin.append_ #[t_sl_api_Pair, t_sl_api_Pair] t_sl_api_Pair #[.slice s.1.p s.1.len s.1.cap, .slice (some (⟨b1, 0, none⟩ : Addr)) 1 1]) h14 fun v5 h15 => ∃ t43 : Sl, v5 = .slice t43.p t43.len t43.cap ∧ (
 K ((⟨t43.p, t43.len, t43.cap⟩ : Sl), ()) h15))) fun K2 =>
 HCalls A P f_vary_Reader_Bad #[.pointer t9] h12 fun v6 h16 => ∃ t28 : Bool, v6 = .bool t28 ∧ (
 PIf t28 (
 K2 (true, ()) h16) (
 LoadS h16 (⟨b, 0, none⟩ : Addr) fun t31 =>
 PIf (sEq t31 (⟨#[]⟩ : ByteArray)) (
 K2 (true, ()) h16) (
 LoadS h16 (⟨b, 0, none⟩ : Addr) fun t36 =>
 K2 ((decide ((t36.size : Int) > (64 : Int))), ()) h16))))) fun K1 =>
 PIf (t17 == (0 : Int)) (
 Store h9 ((⟨b, 0, none⟩ : Addr).add 2) (.bool true) fun h17 =>
 K1 () h17) (
 K1 () h9)))) (
 R (.tuple #[.slice s.1.p s.1.len s.1.cap, .bool true]) h3))) ((⟨none, 0, 0⟩ : Sl), ()) h1)
def a_table_pairs : Ann := .seq .none (.seq .none (.seq .none (.seq (.block (.loop [(5, .one .sl)] [4] (.seq (.seq .none (.cond .none .none)) (.block (.seq .none (.seq .none (.seqJ [] [4, 5, 6, 7] (.seq .none (.cond .none .none)) (.seq .none (.seq (.seq (.reg [(39, .one .bool)] [4, 5, 6]) (.cond (.seq .none .none) .none)) .none))))))))) (.seq .none .none))))
theorem e_table_pairs (A : Amb) (block : ByteArray) (h : Heap) (R : Value → Heap → Prop) : F_table_pairs A block h R = semFun A P f_table_pairs a_table_pairs [.string block] h R := by kernel_rfl
theorem ok_table_pairs {A : Amb} {block : ByteArray} {h : Heap} {R : Value → Heap → Prop} (H : F_table_pairs A block h R) : HCalls A P f_table_pairs #[.string block] h R :=
 semFun_sound mixed (e_table_pairs A block h R ▸ H)
/-- wherry/bloom.Has -/
def F_bloom_Has (A : Amb) (filter : ByteArray) (key : ByteArray) (h : Heap) (R : Value → Heap → Prop) : Prop :=
 Join (fun (r : Bool × Unit) h1 =>
 PIf r.1 (
 R (.bool false) h1) (
 HCalls A P f_bloom_Hash #[.string key] h1 fun v h2 => ∃ t17a : Int, ∃ t17b : Int, v = .tuple #[.int .u32 t17a, .int .u32 t17b] ∧ (
 Loop (fun K1 (s : Int × Int × Unit) h3 =>
 PIf (decide (s.2.1 < (4 : Int))) (
 Chk ((IntKind.wrap .u32 (IntKind.wrap .i64 ((8 : Int) * (filter.size : Int)))) ≠ 0) <|
 Chk ((0 : Int) ≤ (IntKind.wrap .u32 ((s.1.tmod (IntKind.wrap .u32 (IntKind.wrap .i64 ((8 : Int) * (filter.size : Int))))).tdiv (8 : Int))) ∧ (IntKind.wrap .u32 ((s.1.tmod (IntKind.wrap .u32 (IntKind.wrap .i64 ((8 : Int) * (filter.size : Int))))).tdiv (8 : Int))) < (filter.size : Int)) <|
 Chk ((0 : Int) ≤ ((s.1.tmod (IntKind.wrap .u32 (IntKind.wrap .i64 ((8 : Int) * (filter.size : Int))))).tmod (8 : Int))) <|
 PIf ((bAnd .u8 ((sAt filter (IntKind.wrap .u32 ((s.1.tmod (IntKind.wrap .u32 (IntKind.wrap .i64 ((8 : Int) * (filter.size : Int))))).tdiv (8 : Int)))).fdiv ((2 : Int) ^ (min ((s.1.tmod (IntKind.wrap .u32 (IntKind.wrap .i64 ((8 : Int) * (filter.size : Int))))).tmod (8 : Int)).toNat (IntKind.bits .u8)))) (1 : Int)) == (0 : Int)) (
 R (.bool false) h3) (
 K1 ((IntKind.wrap .u32 (s.1 + t17b)), (IntKind.wrap .i64 (s.2.1 + (1 : Int))), ()) h3)) (
 R (.bool true) h3)) (t17a, 0, ()) h2))) fun K =>
 PIf (sEq filter (⟨#[]⟩ : ByteArray)) (
 K (true, ()) h) (
 K ((decide ((filter.size : Int) > (8192 : Int))), ()) h)
def a_bloom_Has : Ann := .seq .none (.seq (.seq (.reg [(14, .one .bool)] [0, 1]) (.cond (.seq .none .none) .none)) (.seq .none (.seq (.seq .none (.block (.loop [(5, .one (.int .u32)), (20, .one (.int .i64))] [0, 6] (.seq .none (.seq (.cond .none .none) (.seq (.block (.seq .none (.seq (.seq .none (.cond (.seq .none .none) .none)) .none))) .none)))))) (.seq .none .none))))
theorem e_bloom_Has (A : Amb) (filter : ByteArray) (key : ByteArray) (h : Heap) (R : Value → Heap → Prop) : F_bloom_Has A filter key h R = semFun A P f_bloom_Has a_bloom_Has [.string filter, .string key] h R := by kernel_rfl
theorem ok_bloom_Has {A : Amb} {filter : ByteArray} {key : ByteArray} {h : Heap} {R : Value → Heap → Prop} (H : F_bloom_Has A filter key h R) : HCalls A P f_bloom_Has #[.string filter, .string key] h R :=
 semFun_sound mixed (e_bloom_Has A filter key h R ▸ H)
/-- (*wherry/vary.Reader).Take -/
def F_vary_Reader_Take (A : Amb) (r : Option Addr) (n : Int) (h : Heap) (R : Value → Heap → Prop) : Prop :=
 Join (fun (r1 : Bool × Unit) h1 =>
 PIf r1.1 (
 R (.string (⟨#[]⟩ : ByteArray)) h1) (
 Join (fun (r2 : Bool × Unit) h2 =>
 PIf r2.1 (
 At r fun a =>
 Store h2 a (.string (⟨#[]⟩ : ByteArray)) fun h3 =>
 At r fun a1 =>
 Store h3 (a1.add 1) (.bool true) fun h4 =>
 R (.string (⟨#[]⟩ : ByteArray)) h4) (
 At r fun a2 =>
 LoadS h2 a2 fun t34 =>
 Chk ((0 : Int) ≤ n ∧ n ≤ ((t34.size : Nat) : Int)) <|
 At r fun a3 =>
 LoadS h2 a3 fun t41 =>
 Chk ((0 : Int) ≤ n ∧ n ≤ ((t41.size : Nat) : Int)) <|
 At r fun a4 =>
 Store h2 a4 (.string (t41.extract n.toNat t41.size)) fun h5 =>
 R (.string (t34.extract 0 n.toNat)) h5)) fun K1 =>
 PIf (decide (n < (0 : Int))) (
 K1 (true, ()) h1) (
 At r fun a5 =>
 LoadS h1 a5 fun t21 =>
 K1 ((decide (n > (t21.size : Int))), ()) h1))) fun K =>
 PIf (r.isNone) (
 K (true, ()) h) (
 At r fun a6 =>
 LoadB h (a6.add 1) fun t12 =>
 K (t12, ()) h)
def a_vary_Reader_Take : Ann := .seq .none (.seq (.seq (.reg [(13, .one .bool)] [0, 1]) (.cond (.seq .none .none) .none)) (.seq (.seq (.reg [(24, .one .bool)] [0, 1]) (.cond (.seq .none (.seq .none .none)) .none)) (.seq .none (.seq .none (.seq .none .none)))))
theorem e_vary_Reader_Take (A : Amb) (r : Option Addr) (n : Int) (h : Heap) (R : Value → Heap → Prop) : F_vary_Reader_Take A r n h R = semFun A P f_vary_Reader_Take a_vary_Reader_Take [.pointer r, .int .i64 n] h R := by kernel_rfl
theorem ok_vary_Reader_Take {A : Amb} {r : Option Addr} {n : Int} {h : Heap} {R : Value → Heap → Prop} (H : F_vary_Reader_Take A r n h R) : HCalls A P f_vary_Reader_Take #[.pointer r, .int .i64 n] h R :=
 semFun_sound mixed (e_vary_Reader_Take A r n h R ▸ H)
/-- (*wherry/mem.Table).before -/
def F_mem_Table_before (A : Amb) (t : Option Addr) (key : ByteArray) (h : Heap) (R : Value → Heap → Prop) : Prop :=
 New h (.cells #[.pointer none, .pointer none, .pointer none, .pointer none, .pointer none, .pointer none, .pointer none, .pointer none, .pointer none, .pointer none, .pointer none, .pointer none] t_12_p_mem_node) fun b h1 =>
 New h1 (.cells #[.pointer none, .pointer none, .pointer none, .pointer none, .pointer none, .pointer none, .pointer none, .pointer none, .pointer none, .pointer none, .pointer none, .pointer none] t_12_p_mem_node) fun b1 h2 =>
 At t fun a =>
 Loop (fun K (s : (Option Addr) × Int × Unit) h3 =>
 PIf (decide (s.2.1 ≥ (0 : Int))) (
 Loop (fun K1 (s1 : (Option Addr) × Unit) h4 =>
 Join (fun (r : Bool × Unit) h5 =>
 PIf r.1 (
 At s1.1 fun a1 =>
 Chk ((0 : Int) ≤ s.2.1 ∧ s.2.1 < (12 : Int)) <|
 LoadP h5 ((a1.add 3).add ((s.2.1 : Int).toNat * 1)) fun t41 =>
 K1 (t41, ()) h5) (
 Chk ((0 : Int) ≤ s.2.1 ∧ s.2.1 < (12 : Int)) <|
 Store h5 ((⟨b1, 0, none⟩ : Addr).add ((s.2.1 : Int).toNat * 1)) (.pointer s1.1) fun h6 =>
 K (s1.1, (IntKind.wrap .i64 (s.2.1 - (1 : Int))), ()) h6)) fun K2 =>
 At s1.1 fun a2 =>
 Chk ((0 : Int) ≤ s.2.1 ∧ s.2.1 < (12 : Int)) <|
 LoadP h4 ((a2.add 3).add ((s.2.1 : Int).toNat * 1)) fun t20 =>
 PIf (!t20.isNone) (
 At s1.1 fun a3 =>
 Chk ((0 : Int) ≤ s.2.1 ∧ s.2.1 < (12 : Int)) <|
 LoadP h4 ((a3.add 3).add ((s.2.1 : Int).toNat * 1)) fun t28 =>
 At t28 fun a4 =>
 LoadS h4 a4 fun t32 =>
 K2 ((sLt t32 key), ()) h4) (
 K2 (false, ()) h4)) (s.1, ()) h3) (
 LoadP h3 (⟨b1, 0, none⟩ : Addr) fun t45_0 =>
 LoadP h3 ((⟨b1, 0, none⟩ : Addr).add 1) fun t45_1 =>
 LoadP h3 ((⟨b1, 0, none⟩ : Addr).add 2) fun t45_2 =>
 LoadP h3 ((⟨b1, 0, none⟩ : Addr).add 3) fun t45_3 =>
 LoadP h3 ((⟨b1, 0, none⟩ : Addr).add 4) fun t45_4 =>
 LoadP h3 ((⟨b1, 0, none⟩ : Addr).add 5) fun t45_5 =>
 LoadP h3 ((⟨b1, 0, none⟩ : Addr).add 6) fun t45_6 =>
 LoadP h3 ((⟨b1, 0, none⟩ : Addr).add 7) fun t45_7 =>
 LoadP h3 ((⟨b1, 0, none⟩ : Addr).add 8) fun t45_8 =>
 LoadP h3 ((⟨b1, 0, none⟩ : Addr).add 9) fun t45_9 =>
 LoadP h3 ((⟨b1, 0, none⟩ : Addr).add 10) fun t45_10 =>
 LoadP h3 ((⟨b1, 0, none⟩ : Addr).add 11) fun t45_11 =>
 Store h3 (⟨b, 0, none⟩ : Addr) (.pointer t45_0) fun h7 =>
 Store h7 ((⟨b, 0, none⟩ : Addr).add 1) (.pointer t45_1) fun h8 =>
 Store h8 ((⟨b, 0, none⟩ : Addr).add 2) (.pointer t45_2) fun h9 =>
 Store h9 ((⟨b, 0, none⟩ : Addr).add 3) (.pointer t45_3) fun h10 =>
 Store h10 ((⟨b, 0, none⟩ : Addr).add 4) (.pointer t45_4) fun h11 =>
 Store h11 ((⟨b, 0, none⟩ : Addr).add 5) (.pointer t45_5) fun h12 =>
 Store h12 ((⟨b, 0, none⟩ : Addr).add 6) (.pointer t45_6) fun h13 =>
 Store h13 ((⟨b, 0, none⟩ : Addr).add 7) (.pointer t45_7) fun h14 =>
 Store h14 ((⟨b, 0, none⟩ : Addr).add 8) (.pointer t45_8) fun h15 =>
 Store h15 ((⟨b, 0, none⟩ : Addr).add 9) (.pointer t45_9) fun h16 =>
 Store h16 ((⟨b, 0, none⟩ : Addr).add 10) (.pointer t45_10) fun h17 =>
 Store h17 ((⟨b, 0, none⟩ : Addr).add 11) (.pointer t45_11) fun h18 =>
 LoadP h18 (⟨b, 0, none⟩ : Addr) fun res_0 =>
 LoadP h18 ((⟨b, 0, none⟩ : Addr).add 1) fun res_1 =>
 LoadP h18 ((⟨b, 0, none⟩ : Addr).add 2) fun res_2 =>
 LoadP h18 ((⟨b, 0, none⟩ : Addr).add 3) fun res_3 =>
 LoadP h18 ((⟨b, 0, none⟩ : Addr).add 4) fun res_4 =>
 LoadP h18 ((⟨b, 0, none⟩ : Addr).add 5) fun res_5 =>
 LoadP h18 ((⟨b, 0, none⟩ : Addr).add 6) fun res_6 =>
 LoadP h18 ((⟨b, 0, none⟩ : Addr).add 7) fun res_7 =>
 LoadP h18 ((⟨b, 0, none⟩ : Addr).add 8) fun res_8 =>
 LoadP h18 ((⟨b, 0, none⟩ : Addr).add 9) fun res_9 =>
 LoadP h18 ((⟨b, 0, none⟩ : Addr).add 10) fun res_10 =>
 LoadP h18 ((⟨b, 0, none⟩ : Addr).add 11) fun res_11 =>
 R (.agg #[.pointer res_0, .pointer res_1, .pointer res_2, .pointer res_3, .pointer res_4, .pointer res_5, .pointer res_6, .pointer res_7, .pointer res_8, .pointer res_9, .pointer res_10, .pointer res_11]) h18)) ((some a), 11, ()) h2
def a_mem_Table_before : Ann := .seq .none (.seq .none (.seq .none (.seq (.seq .none (.block (.loop [(6, .one .ptr), (7, .one (.int .i64))] [1, 4, 5] (.seq (.seq .none (.cond .none .none)) (.seq (.block (.seq (.block (.loop [(6, .one .ptr)] [1, 4, 5, 7] (.seq (.seq (.reg [(35, .one .bool)] [1, 4, 5, 6, 7]) (.cond .none .none)) (.block .none)))) .none)) .none))))) (.seq .none .none))))
theorem e_mem_Table_before (A : Amb) (t : Option Addr) (key : ByteArray) (h : Heap) (R : Value → Heap → Prop) : F_mem_Table_before A t key h R = semFun A P f_mem_Table_before a_mem_Table_before [.pointer t, .string key] h R := by kernel_rfl
theorem ok_mem_Table_before {A : Amb} {t : Option Addr} {key : ByteArray} {h : Heap} {R : Value → Heap → Prop} (H : F_mem_Table_before A t key h R) : HCalls A P f_mem_Table_before #[.pointer t, .string key] h R :=
 semFun_sound mixed (e_mem_Table_before A t key h R ▸ H)
/-- wherry/mem.height -/
def F_mem_height (A : Amb) (key : ByteArray) (h : Heap) (R : Value → Heap → Prop) : Prop :=
 Loop (fun K (s : Int × Int × Unit) h1 =>
 PIf (decide (s.2.1 < (key.size : Int))) (
 Chk ((0 : Int) ≤ s.2.1 ∧ s.2.1 < (key.size : Int)) <|
 K ((IntKind.wrap .u32 ((bXor .u32 s.1 (IntKind.wrap .u32 (sAt key s.2.1))) * (16777619 : Int))), (IntKind.wrap .i64 (s.2.1 + (1 : Int))), ()) h1) (
 Loop (fun K1 (s1 : Int × Int × Unit) h2 =>
 Join (fun (r : Bool × Unit) h3 =>
 PIf r.1 (
 K1 ((s1.1.fdiv ((2 : Int) ^ (2 : Nat))), (IntKind.wrap .i64 (s1.2.1 + (1 : Int))), ()) h3) (
 R (.int .i64 s1.2.1) h3)) fun K2 =>
 PIf (decide (s1.2.1 < (12 : Int))) (
 K2 (((bAnd .u32 s1.1 (3 : Int)) == (0 : Int)), ()) h2) (
 K2 (false, ()) h2)) ((bXor .u32 s.1 (s.1.fdiv ((2 : Int) ^ (15 : Nat)))), 1, ()) h1)) (2166136261, 0, ()) h
def a_mem_height : Ann := .seq .none (.seq .none (.seq (.seq .none (.block (.loop [(3, .one (.int .u32)), (8, .one (.int .i64))] [0, 7] (.seq .none (.seq (.cond .none .none) (.seq (.block (.seq .none .none)) .none)))))) (.seq .none (.seq .none (.seq (.block (.loop [(3, .one (.int .u32)), (5, .one (.int .i64))] [] (.seq (.seq (.reg [(29, .one .bool)] [3, 5]) (.cond .none .none)) (.block (.seq .none .none))))) (.seq .none .none))))))
theorem e_mem_height (A : Amb) (key : ByteArray) (h : Heap) (R : Value → Heap → Prop) : F_mem_height A key h R = semFun A P f_mem_height a_mem_height [.string key] h R := by kernel_rfl
theorem ok_mem_height {A : Amb} {key : ByteArray} {h : Heap} {R : Value → Heap → Prop} (H : F_mem_height A key h R) : HCalls A P f_mem_height #[.string key] h R :=
 semFun_sound mixed (e_mem_height A key h R ▸ H)
/-- (*wherry/box.Box).List -/
def F_box_Box_List (A : Amb) (b : Option Addr) (h : Heap) (R : Value → Heap → Prop) : Prop :=
 HCalls A P f_box_Box_off #[.pointer b] h fun v h1 => ∃ t5 : Bool, v = .bool t5 ∧ (
 PIf t5 (
 R (.tuple #[.slice none 0 0, .int .i64 30]) h1) (
 At b fun a =>
 LoadM h1 a fun t9 =>
 HCalls A P f_maps_Keys_of_map_string__box_file_string__box_file #[.map t9] h1 fun v1 h2 => ∃ t10 : Value, v1 = t10 ∧ (
 HCalls A P f_slices_Sorted_of_string #[t10] h2 fun v2 h3 => ∃ t11 : Sl, v2 = .slice t11.p t11.len t11.cap ∧ (
 R (.tuple #[.slice t11.p t11.len t11.cap, .int .i64 0]) h3))))
def a_box_Box_List : Ann := .seq .none (.seq (.seq .none (.cond (.seq .none .none) .none)) (.seq .none .none))
theorem e_box_Box_List (A : Amb) (b : Option Addr) (h : Heap) (R : Value → Heap → Prop) : F_box_Box_List A b h R = semFun A P f_box_Box_List a_box_Box_List [.pointer b] h R := by kernel_rfl
theorem ok_box_Box_List {A : Amb} {b : Option Addr} {h : Heap} {R : Value → Heap → Prop} (H : F_box_Box_List A b h R) : HCalls A P f_box_Box_List #[.pointer b] h R :=
 semFun_sound mixed (e_box_Box_List A b h R ▸ H)
/-- wherry/frame.Wrap -/
def F_frame_Wrap (A : Amb) (s : ByteArray) (h : Heap) (R : Value → Heap → Prop) : Prop :=
 PIf (decide ((s.size : Int) > (1048576 : Int))) (
 R (.tuple #[.string (⟨#[]⟩ : ByteArray), .int .i64 2]) h) (
 HCalls A P f_vary_Put #[.int .u64 (IntKind.wrap .u64 (s.size : Int))] h fun v h1 => ∃ t10 : ByteArray, v = .string t10 ∧ (
 HCalls A P f_frame_Sum #[.string s] h1 fun v1 h2 => ∃ t12 : Int, v1 = .int .u32 t12 ∧ (
 HCalls A P f_frame_mark #[.int .u32 t12] h2 fun v2 h3 => ∃ t13 : ByteArray, v2 = .string t13 ∧ (
 Chk (((t10.size + t13.size : Nat) : Int) ≤ IntKind.i64.max) <|
 Chk ((((t10 ++ t13).size + s.size : Nat) : Int) ≤ IntKind.i64.max) <|
 R (.tuple #[.string ((t10 ++ t13) ++ s), .int .i64 0]) h3))))
def a_frame_Wrap : Ann := .seq .none (.seq (.seq .none (.cond (.seq .none .none) .none)) (.seq .none .none))
theorem e_frame_Wrap (A : Amb) (s : ByteArray) (h : Heap) (R : Value → Heap → Prop) : F_frame_Wrap A s h R = semFun A P f_frame_Wrap a_frame_Wrap [.string s] h R := by kernel_rfl
theorem ok_frame_Wrap {A : Amb} {s : ByteArray} {h : Heap} {R : Value → Heap → Prop} (H : F_frame_Wrap A s h R) : HCalls A P f_frame_Wrap #[.string s] h R :=
 semFun_sound mixed (e_frame_Wrap A s h R ▸ H)
/-- wherry/vary.Put -/
def F_vary_Put (A : Amb) (n : Int) (h : Heap) (R : Value → Heap → Prop) : Prop :=
 Loop (fun K (s : Int × Sl × Unit) h1 =>
 PIf (decide (s.1 ≥ (128 : Int))) (
 New h1 (.cells #[.int .u8 (bOr .u8 (IntKind.wrap .u8 s.1) (128 : Int))] t_uint8) fun b h2 =>
 RunK A P (Builtin.append_ #[t_sl_uint8, t_sl_uint8] t_sl_uint8 #[.slice s.2.1.p s.2.1.len s.2.1.cap, .slice (some (⟨b, 0, none⟩ : Addr)) 1 1]) h2 fun v h3 => ∃ t11 : Sl, v = .slice t11.p t11.len t11.cap ∧ (
 K ((s.1.fdiv ((2 : Int) ^ (7 : Nat))), (⟨t11.p, t11.len, t11.cap⟩ : Sl), ()) h3)) (
 New h1 (.cells #[.int .u8 (IntKind.wrap .u8 s.1)] t_uint8) fun b1 h4 =>
 RunK A P (Builtin.append_ #[t_sl_uint8, t_sl_uint8] t_sl_uint8 #[.slice s.2.1.p s.2.1.len s.2.1.cap, .slice (some (⟨b1, 0, none⟩ : Addr)) 1 1]) h4 fun v1 h5 => ∃ t18 : Sl, v1 = .slice t18.p t18.len t18.cap ∧ (
 RunK A P (convert t_sl_uint8 t_string (.slice t18.p t18.len t18.cap)) h5 fun v2 h6 => ∃ t19 : ByteArray, v2 = .string t19 ∧ (
 R (.string t19) h6)))) (n, (⟨none, 0, 0⟩ : Sl), ()) h
def a_vary_Put : Ann := .seq .none (.seq .none (.seq (.block (.loop [(0, .one (.int .u64)), (3, .one .sl)] [] (.seq (.seq .none (.cond .none .none)) (.block (.seq .none .none))))) (.seq .none .none)))
theorem e_vary_Put (A : Amb) (n : Int) (h : Heap) (R : Value → Heap → Prop) : F_vary_Put A n h R = semFun A P f_vary_Put a_vary_Put [.int .u64 n] h R := by kernel_rfl
theorem ok_vary_Put {A : Amb} {n : Int} {h : Heap} {R : Value → Heap → Prop} (H : F_vary_Put A n h R) : HCalls A P f_vary_Put #[.int .u64 n] h R :=
 semFun_sound mixed (e_vary_Put A n h R ▸ H)
/-- wherry/vary.Text -/
def F_vary_Text (A : Amb) (s : ByteArray) (h : Heap) (R : Value → Heap → Prop) : Prop :=
 HCalls A P f_vary_Put #[.int .u64 (IntKind.wrap .u64 (s.size : Int))] h fun v h1 => ∃ t6 : ByteArray, v = .string t6 ∧ (
 Chk (((t6.size + s.size : Nat) : Int) ≤ IntKind.i64.max) <|
 R (.string (t6 ++ s)) h1)
def a_vary_Text : Ann := .seq .none (.seq .none .none)
theorem e_vary_Text (A : Amb) (s : ByteArray) (h : Heap) (R : Value → Heap → Prop) : F_vary_Text A s h R = semFun A P f_vary_Text a_vary_Text [.string s] h R := by kernel_rfl
theorem ok_vary_Text {A : Amb} {s : ByteArray} {h : Heap} {R : Value → Heap → Prop} (H : F_vary_Text A s h R) : HCalls A P f_vary_Text #[.string s] h R :=
 semFun_sound mixed (e_vary_Text A s h R ▸ H)
/-- wherry/merge.Live$1 -/
def F_merge_Live_1 (A : Amb) (yield : Value) (c0 : Option Addr) (h : Heap) (R : Value → Heap → Prop) : Prop :=
 OneK (oneB yield) <|
 New h (.cells #[yield] t_func_api_Pair_bool) fun b h1 =>
 At c0 fun a =>
 LoadV h1 a fun t4 =>
 Chk (isFn t4) <|
 PIf ((isNilF t4)) (
 R (.tuple #[]) h1) (
 At c0 fun a1 =>
 LoadV h1 a1 fun t6 =>
 RangeK A P t6 [.agg [.str, .str, .bool]] (fun (args : (ByteArray × ByteArray × Bool × Unit) × Unit) l h2 kn kj =>
 New h2 (.cells #[.string (⟨#[]⟩ : ByteArray), .string (⟨#[]⟩ : ByteArray), .bool false] t_api_Pair) fun b1 h4 =>
 Store h4 (⟨b1, 0, none⟩ : Addr) (.string args.1.1) fun h5 =>
 Store h5 ((⟨b1, 0, none⟩ : Addr).add 1) (.string args.1.2.1) fun h6 =>
 Store h6 ((⟨b1, 0, none⟩ : Addr).add 2) (.bool args.1.2.2.1) fun h7 =>
 ∃ vrec : Go.Loop, h7[l]? = some (.loop vrec) ∧ vrec.state = .ready ∧ (
 Join (fun (r : Bool × Unit) h8 =>
 PIf r.1 (
 kj none h8) (
 kn h8)) fun K =>
 LoadB (h7.setIfInBounds l (.loop { vrec with state := .busy })) ((⟨b1, 0, none⟩ : Addr).add 2) fun t9 =>
 PIf (!t9) (
 LoadV (h7.setIfInBounds l (.loop { vrec with state := .busy })) (⟨b, 0, none⟩ : Addr) fun t12 =>
 LoadS (h7.setIfInBounds l (.loop { vrec with state := .busy })) (⟨b1, 0, none⟩ : Addr) fun t13_0 =>
 LoadS (h7.setIfInBounds l (.loop { vrec with state := .busy })) ((⟨b1, 0, none⟩ : Addr).add 1) fun t13_1 =>
 LoadB (h7.setIfInBounds l (.loop { vrec with state := .busy })) ((⟨b1, 0, none⟩ : Addr).add 2) fun t13_2 =>
 CallV A P t12 #[.agg #[.string t13_0, .string t13_1, .bool t13_2]] (h7.setIfInBounds l (.loop { vrec with state := .busy })) fun v h9 => ∃ t14 : Bool, v = .bool t14 ∧ (
 K ((!t14), ()) h9)) (
 K (false, ()) (h7.setIfInBounds l (.loop { vrec with state := .busy }))))) h1 (fun h10 =>
 h10[h1.size]? = some (.deferred (some [])) ∧ (
 R (.tuple #[]) (h10.setIfInBounds h1.size (.deferred none)))) (fun j h11 =>
 (match j with
 | none => (
 h11[h1.size]? = some (.deferred (some [])) ∧ (
 R (.tuple #[]) (h11.setIfInBounds h1.size (.deferred none))))
 | some i => (match Nat.beq i 0 with
 | true => (
 h11[h1.size]? = some (.deferred (some [])) ∧ (
 R (.tuple #[]) (h11.setIfInBounds h1.size (.deferred none))))
 | false => False))))
def a_merge_Live_1 : Ann := .seq .none (.seq (.seq .none (.cond .none .none)) (.seq .none (.block (.range [.agg [.str, .str, .bool]] .none (.block (.seq (.reg [(16, .one .bool)] []) (.cond .none .none)))))))
theorem e_merge_Live_1 (A : Amb) (yield : Value) (c0 : Option Addr) (h : Heap) (R : Value → Heap → Prop) : F_merge_Live_1 A yield c0 h R = semFun A P f_merge_Live_1 a_merge_Live_1 [yield, .pointer c0] h R := by kernel_rfl
theorem ok_merge_Live_1 {A : Amb} {yield : Value} {c0 : Option Addr} {h : Heap} {R : Value → Heap → Prop} (H : F_merge_Live_1 A yield c0 h R) : HCalls A P f_merge_Live_1 #[yield, .pointer c0] h R :=
 semFun_sound mixed (e_merge_Live_1 A yield c0 h R ▸ H)
/-- slices.Values[[]wherry/api.Pair,wherry/api.Pair] -/
def F_slices_Values_of___api_Pair_api_Pair (A : Amb) (s : Sl) (h : Heap) (R : Value → Heap → Prop) : Prop :=
 New h (.cells #[.slice s.p s.len s.cap] t_sl_api_Pair) fun b h1 =>
 R ((.func (.func f_slices_Values_of___api_Pair_api_Pair_1) #[] #[.pointer (some (⟨b, 0, none⟩ : Addr))])) h1
def a_slices_Values_of___api_Pair_api_Pair : Ann := .seq .none (.seq .none .none)
theorem e_slices_Values_of___api_Pair_api_Pair (A : Amb) (s : Sl) (h : Heap) (R : Value → Heap → Prop) : F_slices_Values_of___api_Pair_api_Pair A s h R = semFun A P f_slices_Values_of___api_Pair_api_Pair a_slices_Values_of___api_Pair_api_Pair [.slice s.p s.len s.cap] h R := by kernel_rfl
theorem ok_slices_Values_of___api_Pair_api_Pair {A : Amb} {s : Sl} {h : Heap} {R : Value → Heap → Prop} (H : F_slices_Values_of___api_Pair_api_Pair A s h R) : HCalls A P f_slices_Values_of___api_Pair_api_Pair #[.slice s.p s.len s.cap] h R :=
 semFun_sound mixed (e_slices_Values_of___api_Pair_api_Pair A s h R ▸ H)
/-- (*wherry/table.Table).block -/
def F_table_Table_block (A : Amb) (t : Option Addr) (key : ByteArray) (h : Heap) (R : Value → Heap → Prop) : Prop :=
 New h (.cells #[.pointer t] t_p_table_Table) fun b h1 =>
 New h1 (.cells #[.string key] t_string) fun b1 h2 =>
 LoadP h2 (⟨b, 0, none⟩ : Addr) fun t5 =>
 At t5 fun a =>
 LoadL h2 a fun t8 =>
 HCalls A P f_sort_Search #[.int .i64 ((t8.len : Nat) : Int), (.func (.func f_table_Table_block_1) #[] #[.pointer (some (⟨b, 0, none⟩ : Addr)), .pointer (some (⟨b1, 0, none⟩ : Addr))])] h2 fun v h3 => ∃ t11 : Int, v = .int .i64 t11 ∧ (
 R (.int .i64 (if ((IntKind.wrap .i64 (t11 - (1 : Int))) : Int) > 0 then (IntKind.wrap .i64 (t11 - (1 : Int))) else 0)) h3)
def a_table_Table_block : Ann := .seq .none (.seq .none .none)
theorem e_table_Table_block (A : Amb) (t : Option Addr) (key : ByteArray) (h : Heap) (R : Value → Heap → Prop) : F_table_Table_block A t key h R = semFun A P f_table_Table_block a_table_Table_block [.pointer t, .string key] h R := by kernel_rfl
theorem ok_table_Table_block {A : Amb} {t : Option Addr} {key : ByteArray} {h : Heap} {R : Value → Heap → Prop} (H : F_table_Table_block A t key h R) : HCalls A P f_table_Table_block #[.pointer t, .string key] h R :=
 semFun_sound mixed (e_table_Table_block A t key h R ▸ H)
/-- wherry/table.Build -/
def F_table_Build (A : Amb) (l : Sl) (h : Heap) (R : Value → Heap → Prop) : Prop :=
 PIf (((l.len : Nat) : Int) == (0 : Int)) (
 R (.tuple #[.string (⟨#[]⟩ : ByteArray), .int .i64 1]) h) (
 Loop (fun K (s : ByteArray × Int × Int × Unit) h1 =>
 PIf (decide (s.2.2.1 < ((l.len : Nat) : Int))) (
 Idx l.p l.len s.2.2.1 fun a =>
 LoadS h1 (a.add (s.2.2.1.toNat * 3)) fun t30_0 =>
 LoadS h1 ((a.add (s.2.2.1.toNat * 3)).add 1) fun t30_1 =>
 LoadB h1 ((a.add (s.2.2.1.toNat * 3)).add 2) fun t30_2 =>
 New h1 (.cells #[.string (⟨#[]⟩ : ByteArray), .string (⟨#[]⟩ : ByteArray), .bool false] t_api_Pair) fun b h2 =>
 Store h2 (⟨b, 0, none⟩ : Addr) (.string t30_0) fun h3 =>
 Store h3 ((⟨b, 0, none⟩ : Addr).add 1) (.string t30_1) fun h4 =>
 Store h4 ((⟨b, 0, none⟩ : Addr).add 2) (.bool t30_2) fun h5 =>
 Join (fun (r : Bool × Unit) h6 =>
 PIf r.1 (
 R (.tuple #[.string (⟨#[]⟩ : ByteArray), .int .i64 1]) h6) (
 Join (fun (r1 : Bool × Unit) h7 =>
 PIf r1.1 (
 R (.tuple #[.string (⟨#[]⟩ : ByteArray), .int .i64 2]) h7) (
 K (s.1, s.2.1, (IntKind.wrap .i64 (s.2.2.1 + (1 : Int))), ()) h7)) fun K2 =>
 LoadS h6 (⟨b, 0, none⟩ : Addr) fun t61 =>
 PIf (decide ((t61.size : Int) > (64 : Int))) (
 K2 (true, ()) h6) (
 LoadS h6 ((⟨b, 0, none⟩ : Addr).add 1) fun t66 =>
 K2 ((decide ((t66.size : Int) > (8192 : Int))), ()) h6))) fun K1 =>
 LoadS h5 (⟨b, 0, none⟩ : Addr) fun t33 =>
 PIf (sEq t33 (⟨#[]⟩ : ByteArray)) (
 K1 (true, ()) h5) (
 LoadB h5 ((⟨b, 0, none⟩ : Addr).add 2) fun t37 =>
 PIf t37 (
 LoadS h5 ((⟨b, 0, none⟩ : Addr).add 1) fun t40 =>
 PIf (!sEq t40 (⟨#[]⟩ : ByteArray)) (
 K1 (true, ()) h5) (
 PIf (decide (s.2.2.1 > (0 : Int))) (
 LoadS h5 (⟨b, 0, none⟩ : Addr) fun t49 =>
 Idx l.p l.len (IntKind.wrap .i64 (s.2.2.1 - (1 : Int))) fun a1 =>
 LoadS h5 (a1.add ((IntKind.wrap .i64 (s.2.2.1 - (1 : Int))).toNat * 3)) fun t55 =>
 K1 ((sLt t49 t55 || sEq t49 t55), ()) h5) (
 K1 (false, ()) h5))) (
 PIf (decide (s.2.2.1 > (0 : Int))) (
 LoadS h5 (⟨b, 0, none⟩ : Addr) fun t49_1 =>
 Idx l.p l.len (IntKind.wrap .i64 (s.2.2.1 - (1 : Int))) fun a2 =>
 LoadS h5 (a2.add ((IntKind.wrap .i64 (s.2.2.1 - (1 : Int))).toNat * 3)) fun t55_1 =>
 K1 ((sLt t49_1 t55_1 || sEq t49_1 t55_1), ()) h5) (
 K1 (false, ()) h5)))) (
 New h1 (.cells #[.pointer none, .slice none 0 0] t_strings_Builder) fun b1 h8 =>
 New h8 (.cells #[.slice none 0 0] t_sl_string) fun b2 h9 =>
 New h9 (.cells #[.string (⟨#[]⟩ : ByteArray)] t_string) fun b3 h10 =>
 Store h10 (⟨b3, 0, none⟩ : Addr) (.string (⟨#[]⟩ : ByteArray)) fun h11 =>
 New h11 (.cells #[.int .i64 0] t_int) fun b4 h12 =>
 Store h12 (⟨b4, 0, none⟩ : Addr) (.int .i64 0) fun h13 =>
 HCalls A P f_slices_Chunk_of___api_Pair_api_Pair #[.slice l.p l.len l.cap, .int .i64 8] h13 fun v h14 => ∃ t72 : Value, v = t72 ∧ (
 RangeK A P t72 [.one .sl] (fun (args : Sl × Unit) l1 h15 kn kj =>
 ∃ vrec : Go.Loop, h15[l1]? = some (.loop vrec) ∧ vrec.state = .ready ∧ (
 Loop (fun K3 (s1 : ByteArray × Int × Unit) h17 =>
 PIf (decide (s1.2.1 < ((args.1.len : Nat) : Int))) (
 Idx args.1.p args.1.len s1.2.1 fun a3 =>
 LoadS h17 (a3.add (s1.2.1.toNat * 3)) fun t79_0 =>
 LoadS h17 ((a3.add (s1.2.1.toNat * 3)).add 1) fun t79_1 =>
 LoadB h17 ((a3.add (s1.2.1.toNat * 3)).add 2) fun t79_2 =>
 New h17 (.cells #[.string (⟨#[]⟩ : ByteArray), .string (⟨#[]⟩ : ByteArray), .bool false] t_api_Pair) fun b5 h18 =>
 Store h18 (⟨b5, 0, none⟩ : Addr) (.string t79_0) fun h19 =>
 Store h19 ((⟨b5, 0, none⟩ : Addr).add 1) (.string t79_1) fun h20 =>
 Store h20 ((⟨b5, 0, none⟩ : Addr).add 2) (.bool t79_2) fun h21 =>
 LoadL h21 (⟨b2, 0, none⟩ : Addr) fun t80 =>
 LoadS h21 (⟨b5, 0, none⟩ : Addr) fun t82 =>
 New h21 (.cells #[.string t82] t_string) fun b6 h22 =>
 RunK A P (Builtin.append_ #[t_sl_string, t_sl_string] t_sl_string #[.slice t80.p t80.len t80.cap, .slice (some (⟨b6, 0, none⟩ : Addr)) 1 1]) h22 fun v1 h23 => ∃ t84 : Sl, v1 = .slice t84.p t84.len t84.cap ∧ (
 Store h23 (⟨b2, 0, none⟩ : Addr) (.slice t84.p t84.len t84.cap) fun h24 =>
 LoadS h24 (⟨b5, 0, none⟩ : Addr) fun t86_0 =>
 LoadS h24 ((⟨b5, 0, none⟩ : Addr).add 1) fun t86_1 =>
 LoadB h24 ((⟨b5, 0, none⟩ : Addr).add 2) fun t86_2 =>
 HCalls A P f_table_pair #[.agg #[.string t86_0, .string t86_1, .bool t86_2]] h24 fun v2 h25 => ∃ t87 : ByteArray, v2 = .string t87 ∧ (
 Chk (((s1.1.size + t87.size : Nat) : Int) ≤ IntKind.i64.max) <|
 K3 ((s1.1 ++ t87), (IntKind.wrap .i64 (s1.2.1 + (1 : Int))), ()) h25))) (
 HCalls A P f_frame_Wrap #[.string s1.1] h17 fun v3 h26 => ∃ t92a : ByteArray, ∃ t92b : Int, v3 = .tuple #[.string t92a, .int .i64 t92b] ∧ (
 HCalls A P f_strings_Builder_WriteString #[.pointer (some (⟨b1, 0, none⟩ : Addr)), .string t92a] h26 fun v4 h27 => ∃ t96a : Int, ∃ t96b : Value, v4 = .tuple #[.int .i64 t96a, t96b] ∧ (
 LoadS h27 (⟨b3, 0, none⟩ : Addr) fun t97 =>
 Idx args.1.p args.1.len 0 fun a4 =>
 LoadS h27 (a4.add ((0 : Int).toNat * 3)) fun t101 =>
 HCalls A P f_vary_Text #[.string t101] h27 fun v5 h28 => ∃ t102 : ByteArray, v5 = .string t102 ∧ (
 And (hget h28 (⟨b3, 0, none⟩ : Addr) = some (.string t97)) <|
 Chk (((t97.size + t102.size : Nat) : Int) ≤ IntKind.i64.max) <|
 Store h28 (⟨b3, 0, none⟩ : Addr) (.string (t97 ++ t102)) fun h29 =>
 LoadI .i64 h29 (⟨b4, 0, none⟩ : Addr) fun t104 =>
 Store h29 (⟨b4, 0, none⟩ : Addr) (.int .i64 (IntKind.wrap .i64 (t104 + (1 : Int)))) fun h30 =>
 kn h30))))) ((⟨#[]⟩ : ByteArray), 0, ()) (h15.setIfInBounds l1 (.loop { vrec with state := .busy })))) h14 (fun h31 =>
 LoadL h31 (⟨b2, 0, none⟩ : Addr) fun t107 =>
 LoadL h31 (⟨b2, 0, none⟩ : Addr) fun t108 =>
 HCalls A P f_bloom_Make #[.slice t107.p t107.len t107.cap, .int .i64 (if (8192 : Int) < (IntKind.wrap .i64 (((t108.len : Nat) : Int) + (8 : Int))) then 8192 else (IntKind.wrap .i64 (((t108.len : Nat) : Int) + (8 : Int))))] h31 fun v6 h33 => ∃ t112a : ByteArray, ∃ t112b : Int, v6 = .tuple #[.string t112a, .int .i64 t112b] ∧ (
 LoadI .i64 h33 (⟨b4, 0, none⟩ : Addr) fun t115 =>
 HCalls A P f_vary_Put #[.int .u64 (IntKind.wrap .u64 t115)] h33 fun v7 h34 => ∃ t117 : ByteArray, v7 = .string t117 ∧ (
 LoadS h34 (⟨b3, 0, none⟩ : Addr) fun t118 =>
 And (hget h33 (⟨b3, 0, none⟩ : Addr) = some (.string t118)) <|
 Chk (((t117.size + t118.size : Nat) : Int) ≤ IntKind.i64.max) <|
 HCalls A P f_vary_Put #[.int .u64 (IntKind.wrap .u64 ((l.len : Nat) : Int))] h34 fun v8 h35 => ∃ t123 : ByteArray, v8 = .string t123 ∧ (
 And (hget h35 (⟨b3, 0, none⟩ : Addr) = some (.string t118)) <|
 Chk ((((t117 ++ t118).size + t123.size : Nat) : Int) ≤ IntKind.i64.max) <|
 HCalls A P f_vary_Text #[.string t112a] h35 fun v9 h36 => ∃ t126 : ByteArray, v9 = .string t126 ∧ (
 And (hget h36 (⟨b3, 0, none⟩ : Addr) = some (.string t118)) <|
 Chk (((((t117 ++ t118) ++ t123).size + t126.size : Nat) : Int) ≤ IntKind.i64.max) <|
 HCalls A P f_frame_Wrap #[.string (((t117 ++ t118) ++ t123) ++ t126)] h36 fun v10 h37 => ∃ t130a : ByteArray, ∃ t130b : Int, v10 = .tuple #[.string t130a, .int .i64 t130b] ∧ (
 PIf (t130b != (0 : Int)) (
 h37[h14.size]? = some (.deferred (some [])) ∧ (
 R (.tuple #[.string (⟨#[]⟩ : ByteArray), .int .i64 t130b]) (h37.setIfInBounds h14.size (.deferred none)))) (
 HCalls A P f_strings_Builder_WriteString #[.pointer (some (⟨b1, 0, none⟩ : Addr)), .string t130a] h37 fun v11 h38 => ∃ t137a : Int, ∃ t137b : Value, v11 = .tuple #[.int .i64 t137a, t137b] ∧ (
 HCalls A P f_strings_Builder_String #[.pointer (some (⟨b1, 0, none⟩ : Addr))] h38 fun v12 h39 => ∃ t138 : ByteArray, v12 = .string t138 ∧ (
 h39[h14.size]? = some (.deferred (some [])) ∧ (
 R (.tuple #[.string t138, .int .i64 0]) (h39.setIfInBounds h14.size (.deferred none)))))))))))) (fun j h32 =>
 (match j with
 | none => (
 h32[h14.size]? = some (.deferred (some [])) ∧ (
 R (.tuple #[.string s.1, .int .i64 s.2.1]) (h32.setIfInBounds h14.size (.deferred none))))
 | some i => (match Nat.beq i 3 with
 | true => (
 LoadL h32 (⟨b2, 0, none⟩ : Addr) fun t107_1 =>
 LoadL h32 (⟨b2, 0, none⟩ : Addr) fun t108_1 =>
 HCalls A P f_bloom_Make #[.slice t107_1.p t107_1.len t107_1.cap, .int .i64 (if (8192 : Int) < (IntKind.wrap .i64 (((t108_1.len : Nat) : Int) + (8 : Int))) then 8192 else (IntKind.wrap .i64 (((t108_1.len : Nat) : Int) + (8 : Int))))] h32 fun v13 h40 => ∃ t112a1 : ByteArray, ∃ t112b1 : Int, v13 = .tuple #[.string t112a1, .int .i64 t112b1] ∧ (
 LoadI .i64 h40 (⟨b4, 0, none⟩ : Addr) fun t115_1 =>
 HCalls A P f_vary_Put #[.int .u64 (IntKind.wrap .u64 t115_1)] h40 fun v14 h41 => ∃ t117_1 : ByteArray, v14 = .string t117_1 ∧ (
 LoadS h41 (⟨b3, 0, none⟩ : Addr) fun t118_1 =>
 And (hget h40 (⟨b3, 0, none⟩ : Addr) = some (.string t118_1)) <|
 Chk (((t117_1.size + t118_1.size : Nat) : Int) ≤ IntKind.i64.max) <|
 HCalls A P f_vary_Put #[.int .u64 (IntKind.wrap .u64 ((l.len : Nat) : Int))] h41 fun v15 h42 => ∃ t123_1 : ByteArray, v15 = .string t123_1 ∧ (
 And (hget h42 (⟨b3, 0, none⟩ : Addr) = some (.string t118_1)) <|
 Chk ((((t117_1 ++ t118_1).size + t123_1.size : Nat) : Int) ≤ IntKind.i64.max) <|
 HCalls A P f_vary_Text #[.string t112a1] h42 fun v16 h43 => ∃ t126_1 : ByteArray, v16 = .string t126_1 ∧ (
 And (hget h43 (⟨b3, 0, none⟩ : Addr) = some (.string t118_1)) <|
 Chk (((((t117_1 ++ t118_1) ++ t123_1).size + t126_1.size : Nat) : Int) ≤ IntKind.i64.max) <|
 HCalls A P f_frame_Wrap #[.string (((t117_1 ++ t118_1) ++ t123_1) ++ t126_1)] h43 fun v17 h44 => ∃ t130a1 : ByteArray, ∃ t130b1 : Int, v17 = .tuple #[.string t130a1, .int .i64 t130b1] ∧ (
 PIf (t130b1 != (0 : Int)) (
 h44[h14.size]? = some (.deferred (some [])) ∧ (
 R (.tuple #[.string (⟨#[]⟩ : ByteArray), .int .i64 t130b1]) (h44.setIfInBounds h14.size (.deferred none)))) (
 HCalls A P f_strings_Builder_WriteString #[.pointer (some (⟨b1, 0, none⟩ : Addr)), .string t130a1] h44 fun v18 h45 => ∃ t137a1 : Int, ∃ t137b1 : Value, v18 = .tuple #[.int .i64 t137a1, t137b1] ∧ (
 HCalls A P f_strings_Builder_String #[.pointer (some (⟨b1, 0, none⟩ : Addr))] h45 fun v19 h46 => ∃ t138_1 : ByteArray, v19 = .string t138_1 ∧ (
 h46[h14.size]? = some (.deferred (some [])) ∧ (
 R (.tuple #[.string t138_1, .int .i64 0]) (h46.setIfInBounds h14.size (.deferred none))))))))))))
 | false => False)))))) ((⟨#[]⟩ : ByteArray), 0, 0, ()) h)
def a_table_Build : Ann := .seq .none (.seq (.seq .none (.cond (.seq .none .none) .none)) (.seq (.seq .none (.block (.loop [(2, .one .str), (3, .one (.int .i64)), (26, .one (.int .i64))] [0, 24, 25] (.seq .none (.seq (.cond .none .none) (.seq (.block (.seq .none (.block (.seq (.reg [(31, .one .bool)] [0, 2, 3, 5, 24, 25, 26]) (.cond (.seq .none .none) (.seq (.reg [(59, .one .bool)] [0, 2, 3, 24, 25, 26]) (.cond (.seq .none .none) .none))))))) .none)))))) (.seq .none (.seq .none (.seq .none (.seq .none (.seq (.seq .none (.block (.range [.one .sl] .none (.block (.seq .none (.seq (.seq .none (.block (.loop [(11, .one .str), (76, .one (.int .i64))] [6, 7, 8, 9, 10, 74, 75] (.seq .none (.seq (.cond .none .none) (.seq (.block (.seq .none (.seq .none .none))) .none)))))) (.seq .none (.seq .none (.seq .none .none))))))))) (.seq .none (.seq .none (.seq .none (.seq (.seq .none (.cond (.seq .none .none) .none)) (.seq .none (.seq .none .none)))))))))))))
theorem e_table_Build (A : Amb) (l : Sl) (h : Heap) (R : Value → Heap → Prop) : F_table_Build A l h R = semFun A P f_table_Build a_table_Build [.slice l.p l.len l.cap] h R := by kernel_rfl
theorem ok_table_Build {A : Amb} {l : Sl} {h : Heap} {R : Value → Heap → Prop} (H : F_table_Build A l h R) : HCalls A P f_table_Build #[.slice l.p l.len l.cap] h R :=
 semFun_sound mixed (e_table_Build A l h R ▸ H)
/-- slices.AppendSeq[[]wherry/api.Pair,wherry/api.Pair] -/
def F_slices_AppendSeq_of___api_Pair_api_Pair (A : Amb) (s : Sl) (seq : Value) (h : Heap) (R : Value → Heap → Prop) : Prop :=
 New h (.cells #[.slice s.p s.len s.cap] t_sl_api_Pair) fun b h1 =>
 RangeK A P seq [.agg [.str, .str, .bool]] (fun (args : (ByteArray × ByteArray × Bool × Unit) × Unit) l h2 kn kj =>
 New h2 (.cells #[.string (⟨#[]⟩ : ByteArray), .string (⟨#[]⟩ : ByteArray), .bool false] t_api_Pair) fun b1 h4 =>
 Store h4 (⟨b1, 0, none⟩ : Addr) (.string args.1.1) fun h5 =>
 Store h5 ((⟨b1, 0, none⟩ : Addr).add 1) (.string args.1.2.1) fun h6 =>
 Store h6 ((⟨b1, 0, none⟩ : Addr).add 2) (.bool args.1.2.2.1) fun h7 =>
 ∃ vrec : Go.Loop, h7[l]? = some (.loop vrec) ∧ vrec.state = .ready ∧ (
 LoadL (h7.setIfInBounds l (.loop { vrec with state := .busy })) (⟨b, 0, none⟩ : Addr) fun t8 =>
 LoadS (h7.setIfInBounds l (.loop { vrec with state := .busy })) (⟨b1, 0, none⟩ : Addr) fun t9_0 =>
 LoadS (h7.setIfInBounds l (.loop { vrec with state := .busy })) ((⟨b1, 0, none⟩ : Addr).add 1) fun t9_1 =>
 LoadB (h7.setIfInBounds l (.loop { vrec with state := .busy })) ((⟨b1, 0, none⟩ : Addr).add 2) fun t9_2 =>
 New (h7.setIfInBounds l (.loop { vrec with state := .busy })) (.cells #[.string t9_0, .string t9_1, .bool t9_2] t_api_Pair) fun b2 h8 =>
 RunK A P (Builtin.append_ #[t_sl_api_Pair, t_sl_api_Pair] t_sl_api_Pair #[.slice t8.p t8.len t8.cap, .slice (some (⟨b2, 0, none⟩ : Addr)) 1 1]) h8 fun v h9 => ∃ t11 : Sl, v = .slice t11.p t11.len t11.cap ∧ (
 Store h9 (⟨b, 0, none⟩ : Addr) (.slice t11.p t11.len t11.cap) fun h10 =>
 kn h10))) h1 (fun h11 =>
 LoadL h11 (⟨b, 0, none⟩ : Addr) fun t12 =>
 h11[h1.size]? = some (.deferred (some [])) ∧ (
 R (.slice t12.p t12.len t12.cap) (h11.setIfInBounds h1.size (.deferred none)))) (fun j h12 =>
 (match j with
 | none => (
 h12[h1.size]? = some (.deferred (some [])) ∧ (
 R (.slice none 0 0) (h12.setIfInBounds h1.size (.deferred none))))
 | some i => (match Nat.beq i 0 with
 | true => (
 LoadL h12 (⟨b, 0, none⟩ : Addr) fun t12_1 =>
 h12[h1.size]? = some (.deferred (some [])) ∧ (
 R (.slice t12_1.p t12_1.len t12_1.cap) (h12.setIfInBounds h1.size (.deferred none))))
 | false => False)))
def a_slices_AppendSeq_of___api_Pair_api_Pair : Ann := .seq .none (.seq (.seq .none (.block (.range [.agg [.str, .str, .bool]] .none (.block .none)))) (.seq .none .none))
theorem e_slices_AppendSeq_of___api_Pair_api_Pair (A : Amb) (s : Sl) (seq : Value) (h : Heap) (R : Value → Heap → Prop) : F_slices_AppendSeq_of___api_Pair_api_Pair A s seq h R = semFun A P f_slices_AppendSeq_of___api_Pair_api_Pair a_slices_AppendSeq_of___api_Pair_api_Pair [.slice s.p s.len s.cap, seq] h R := by kernel_rfl
theorem ok_slices_AppendSeq_of___api_Pair_api_Pair {A : Amb} {s : Sl} {seq : Value} {h : Heap} {R : Value → Heap → Prop} (H : F_slices_AppendSeq_of___api_Pair_api_Pair A s seq h R) : HCalls A P f_slices_AppendSeq_of___api_Pair_api_Pair #[.slice s.p s.len s.cap, seq] h R :=
 semFun_sound mixed (e_slices_AppendSeq_of___api_Pair_api_Pair A s seq h R ▸ H)
/-- (*wherry/mem.Table).From$1 -/
def F_mem_Table_From_1 (A : Amb) (yield : Value) (c0 : Option Addr) (c1 : Option Addr) (h : Heap) (R : Value → Heap → Prop) : Prop :=
 At c0 fun a =>
 LoadP h a fun t5 =>
 PIf (t5.isNone) (
 R (.tuple #[]) h) (
 At c0 fun a1 =>
 LoadP h a1 fun t7 =>
 At c1 fun a2 =>
 LoadS h a2 fun t8 =>
 HCalls A P f_mem_Table_before #[.pointer t7, .string t8] h fun v h1 => ∃ t9_0 : Option Addr, ∃ t9_1 : Option Addr, ∃ t9_2 : Option Addr, ∃ t9_3 : Option Addr, ∃ t9_4 : Option Addr, ∃ t9_5 : Option Addr, ∃ t9_6 : Option Addr, ∃ t9_7 : Option Addr, ∃ t9_8 : Option Addr, ∃ t9_9 : Option Addr, ∃ t9_10 : Option Addr, ∃ t9_11 : Option Addr, v = .agg #[.pointer t9_0, .pointer t9_1, .pointer t9_2, .pointer t9_3, .pointer t9_4, .pointer t9_5, .pointer t9_6, .pointer t9_7, .pointer t9_8, .pointer t9_9, .pointer t9_10, .pointer t9_11] ∧ (
 At t9_0 fun a3 =>
 Chk ((0 : Int) ≤ 0 ∧ 0 < (12 : Int)) <|
 LoadP h1 ((a3.add 3).add ((0 : Int).toNat * 1)) fun t14 =>
 Loop (fun K (s : (Option Addr) × Unit) h2 =>
 PIf (!s.1.isNone) (
 At s.1 fun a4 =>
 LoadS h2 a4 fun t26_0 =>
 LoadS h2 (a4.add 1) fun t26_1 =>
 LoadB h2 (a4.add 2) fun t26_2 =>
 CallV A P yield #[.agg #[.string t26_0, .string t26_1, .bool t26_2]] h2 fun v1 h3 => ∃ t27 : Bool, v1 = .bool t27 ∧ (
 PIf (!t27) (
 R (.tuple #[]) h3) (
 At s.1 fun a5 =>
 Chk ((0 : Int) ≤ 0 ∧ 0 < (12 : Int)) <|
 LoadP h3 ((a5.add 3).add ((0 : Int).toNat * 1)) fun t21 =>
 K (t21, ()) h3))) (
 R (.tuple #[]) h2)) (t14, ()) h1))
def a_mem_Table_From_1 : Ann := .seq (.seq .none (.cond .none .none)) (.seq .none (.block (.loop [(4, .one .ptr)] [0] (.seq (.seq .none (.cond .none .none)) (.seq (.block (.seq .none (.cond .none .none))) .none)))))
theorem e_mem_Table_From_1 (A : Amb) (yield : Value) (c0 : Option Addr) (c1 : Option Addr) (h : Heap) (R : Value → Heap → Prop) : F_mem_Table_From_1 A yield c0 c1 h R = semFun A P f_mem_Table_From_1 a_mem_Table_From_1 [yield, .pointer c0, .pointer c1] h R := by kernel_rfl
theorem ok_mem_Table_From_1 {A : Amb} {yield : Value} {c0 : Option Addr} {c1 : Option Addr} {h : Heap} {R : Value → Heap → Prop} (H : F_mem_Table_From_1 A yield c0 c1 h R) : HCalls A P f_mem_Table_From_1 #[yield, .pointer c0, .pointer c1] h R :=
 semFun_sound mixed (e_mem_Table_From_1 A yield c0 c1 h R ▸ H)
/-- (*wherry/lsm.DB).note -/
def F_lsm_DB_note (A : Amb) (d : Option Addr) (h : Heap) (R : Value → Heap → Prop) : Prop :=
 At d fun a =>
 LoadI .i64 h (a.add 6) fun t9 =>
 HCalls A P f_vary_Put #[.int .u64 (IntKind.wrap .u64 t9)] h fun v h1 => ∃ t11 : ByteArray, v = .string t11 ∧ (
 At d fun a1 =>
 LoadI .i64 h1 (a1.add 7) fun t15 =>
 And (hget h (a1.add 7) = some (.int .i64 t15)) <|
 HCalls A P f_vary_Put #[.int .u64 (IntKind.wrap .u64 t15)] h1 fun v1 h2 => ∃ t17 : ByteArray, v1 = .string t17 ∧ (
 Chk (((t11.size + t17.size : Nat) : Int) ≤ IntKind.i64.max) <|
 At d fun a2 =>
 LoadL h2 (a2.add 5) fun t22 =>
 And (hget h1 (a2.add 5) = some (.slice t22.p t22.len t22.cap)) <|
 And (hget h (a2.add 5) = some (.slice t22.p t22.len t22.cap)) <|
 HCalls A P f_vary_Put #[.int .u64 (IntKind.wrap .u64 ((t22.len : Nat) : Int))] h2 fun v2 h3 => ∃ t25 : ByteArray, v2 = .string t25 ∧ (
 Chk ((((t11 ++ t17).size + t25.size : Nat) : Int) ≤ IntKind.i64.max) <|
 At d fun a3 =>
 LoadL h3 (a3.add 5) fun t30 =>
 Loop (fun K (s : ByteArray × Int × Unit) h4 =>
 PIf (decide (s.2.1 < ((t30.len : Nat) : Int))) (
 Idx t30.p t30.len s.2.1 fun a4 =>
 LoadI .i64 h4 (a4.add (s.2.1.toNat * 1)) fun t35 =>
 HCalls A P f_vary_Put #[.int .u64 (IntKind.wrap .u64 t35)] h4 fun v3 h5 => ∃ t39 : ByteArray, v3 = .string t39 ∧ (
 Chk (((s.1.size + t39.size : Nat) : Int) ≤ IntKind.i64.max) <|
 K ((s.1 ++ t39), (IntKind.wrap .i64 (s.2.1 + (1 : Int))), ()) h5)) (
 R (.string s.1) h4)) (((t11 ++ t17) ++ t25), 0, ()) h3)))
def a_lsm_DB_note : Ann := .seq .none (.seq .none (.seq (.seq .none (.block (.loop [(3, .one .str), (32, .one (.int .i64))] [30, 31] (.seq .none (.seq (.cond .none .none) (.seq (.block (.seq .none .none)) .none)))))) (.seq .none .none)))
theorem e_lsm_DB_note (A : Amb) (d : Option Addr) (h : Heap) (R : Value → Heap → Prop) : F_lsm_DB_note A d h R = semFun A P f_lsm_DB_note a_lsm_DB_note [.pointer d] h R := by kernel_rfl
theorem ok_lsm_DB_note {A : Amb} {d : Option Addr} {h : Heap} {R : Value → Heap → Prop} (H : F_lsm_DB_note A d h R) : HCalls A P f_lsm_DB_note #[.pointer d] h R :=
 semFun_sound mixed (e_lsm_DB_note A d h R ▸ H)
/-- (*wherry/table.Table).From$1 -/
def F_table_Table_From_1 (A : Amb) (yield : Value) (c0 : Option Addr) (c1 : Option Addr) (h : Heap) (R : Value → Heap → Prop) : Prop :=
 At c0 fun a =>
 LoadP h a fun t10 =>
 PIf (t10.isNone) (
 R (.tuple #[]) h) (
 At c0 fun a1 =>
 LoadP h a1 fun t12 =>
 At t12 fun a2 =>
 LoadL h (a2.add 1) fun t15 =>
 At c0 fun a3 =>
 LoadP h a3 fun t16 =>
 At c1 fun a4 =>
 LoadS h a4 fun t17 =>
 HCalls A P f_table_Table_block #[.pointer t16, .string t17] h fun v h1 => ∃ t18 : Int, v = .int .i64 t18 ∧ (
 And (hget h1 (a2.add 1) = some (.slice t15.p t15.len t15.cap)) <|
 And (hget h1 a1 = some (.pointer t12)) <|
 Chk ((0 : Int) ≤ t18 ∧ t18 ≤ ((t15.len : Nat) : Int)) <|
 Loop (fun K (s : Int × Unit) h2 =>
 PIf (decide (s.1 < (((t15.len - t18.toNat) : Nat) : Int))) (
 Idx (slOff t15.p t15.cap t18.toNat 1) (t15.len - t18.toNat) s.1 fun a5 =>
 LoadS h2 (a5.add (s.1.toNat * 1)) fun t24 =>
 HCalls A P f_table_pairs #[.string t24] h2 fun v1 h3 => ∃ t27a : Sl, ∃ t27b : Bool, v1 = .tuple #[.slice t27a.p t27a.len t27a.cap, .bool t27b] ∧ (
 Loop (fun K1 (s1 : Int × Unit) h4 =>
 PIf (decide (s1.1 < ((t27a.len : Nat) : Int))) (
 Idx t27a.p t27a.len s1.1 fun a6 =>
 LoadS h4 (a6.add (s1.1.toNat * 3)) fun t35_0 =>
 LoadS h4 ((a6.add (s1.1.toNat * 3)).add 1) fun t35_1 =>
 LoadB h4 ((a6.add (s1.1.toNat * 3)).add 2) fun t35_2 =>
 New h4 (.cells #[.string (⟨#[]⟩ : ByteArray), .string (⟨#[]⟩ : ByteArray), .bool false] t_api_Pair) fun b h5 =>
 Store h5 (⟨b, 0, none⟩ : Addr) (.string t35_0) fun h6 =>
 Store h6 ((⟨b, 0, none⟩ : Addr).add 1) (.string t35_1) fun h7 =>
 Store h7 ((⟨b, 0, none⟩ : Addr).add 2) (.bool t35_2) fun h8 =>
 Join (fun (r : Bool × Unit) h9 =>
 PIf r.1 (
 R (.tuple #[]) h9) (
 K1 ((IntKind.wrap .i64 (s1.1 + (1 : Int))), ()) h9)) fun K2 =>
 LoadS h8 (⟨b, 0, none⟩ : Addr) fun t37 =>
 At c1 fun a7 =>
 LoadS h8 a7 fun t38 =>
 PIf (!sLt t37 t38) (
 LoadS h8 (⟨b, 0, none⟩ : Addr) fun t42_0 =>
 LoadS h8 ((⟨b, 0, none⟩ : Addr).add 1) fun t42_1 =>
 LoadB h8 ((⟨b, 0, none⟩ : Addr).add 2) fun t42_2 =>
 CallV A P yield #[.agg #[.string t42_0, .string t42_1, .bool t42_2]] h8 fun v2 h10 => ∃ t43 : Bool, v2 = .bool t43 ∧ (
 K2 ((!t43), ()) h10)) (
 K2 (false, ()) h8)) (
 K ((IntKind.wrap .i64 (s.1 + (1 : Int))), ()) h4)) (0, ()) h3)) (
 R (.tuple #[]) h2)) (0, ()) h1))
def a_table_Table_From_1 : Ann := .seq (.seq .none (.cond .none .none)) (.seq .none (.block (.loop [(21, .one (.int .i64))] [0, 2, 19, 20] (.seq .none (.seq (.cond .none .none) (.seq (.block (.seq .none (.seq .none (.seq .none (.block (.loop [(32, .one (.int .i64))] [0, 2, 19, 20, 21, 30, 31] (.seq .none (.seq (.cond .none .none) (.seq (.block (.seq .none (.seq (.reg [(45, .one .bool)] [0, 2, 19, 20, 21, 30, 31, 32]) (.cond .none .none)))) .none))))))))) .none))))))
theorem e_table_Table_From_1 (A : Amb) (yield : Value) (c0 : Option Addr) (c1 : Option Addr) (h : Heap) (R : Value → Heap → Prop) : F_table_Table_From_1 A yield c0 c1 h R = semFun A P f_table_Table_From_1 a_table_Table_From_1 [yield, .pointer c0, .pointer c1] h R := by kernel_rfl
theorem ok_table_Table_From_1 {A : Amb} {yield : Value} {c0 : Option Addr} {c1 : Option Addr} {h : Heap} {R : Value → Heap → Prop} (H : F_table_Table_From_1 A yield c0 c1 h R) : HCalls A P f_table_Table_From_1 #[yield, .pointer c0, .pointer c1] h R :=
 semFun_sound mixed (e_table_Table_From_1 A yield c0 c1 h R ▸ H)
/-- wherry/merge.All$1 -/
def F_merge_All_1 (A : Amb) (yield : Value) (c0 : Option Addr) (h : Heap) (R : Value → Heap → Prop) : Prop :=
 At c0 fun a =>
 LoadL h a fun t12 =>
 Loop (fun K (s : Sl × Int × Unit) h1 =>
 PIf (decide (s.2.1 < ((t12.len : Nat) : Int))) (
 Join (fun (s1 : Sl × Unit) h2 =>
 K ((⟨s1.1.p, s1.1.len, s1.1.cap⟩ : Sl), (IntKind.wrap .i64 (s.2.1 + (1 : Int))), ()) h2) fun K1 =>
 Idx t12.p t12.len s.2.1 fun a1 =>
 LoadV h1 (a1.add (s.2.1.toNat * 1)) fun t17 =>
 Chk (isFn t17) <|
 PIf (!(isNilF t17)) (
 HCalls A P f_slices_Collect_of_api_Pair #[t17] h1 fun v h3 => ∃ t22 : Sl, v = .slice t22.p t22.len t22.cap ∧ (
 New h3 (.cells #[.slice t22.p t22.len t22.cap] t_sl_api_Pair) fun b h4 =>
 RunK A P (Builtin.append_ #[t_sl_sl_api_Pair, t_sl_sl_api_Pair] t_sl_sl_api_Pair #[.slice s.1.p s.1.len s.1.cap, .slice (some (⟨b, 0, none⟩ : Addr)) 1 1]) h4 fun v1 h5 => ∃ t24 : Sl, v1 = .slice t24.p t24.len t24.cap ∧ (
 K1 ((⟨t24.p, t24.len, t24.cap⟩ : Sl), ()) h5))) (
 K1 ((⟨s.1.p, s.1.len, s.1.cap⟩ : Sl), ()) h1)) (
 Loop (fun K2 (s2 : Unit) h6 =>
 Loop (fun K3 (s3 : Int × Int × Unit) h7 =>
 PIf (decide (s3.2.1 < ((s.1.len : Nat) : Int))) (
 Join (fun (s4 : Int × Unit) h8 =>
 K3 (s4.1, (IntKind.wrap .i64 (s3.2.1 + (1 : Int))), ()) h8) fun K4 =>
 Idx s.1.p s.1.len s3.2.1 fun a2 =>
 LoadL h7 (a2.add (s3.2.1.toNat * 1)) fun t32 =>
 Join (fun (r : Bool × Unit) h9 =>
 PIf r.1 (
 K4 (s3.2.1, ()) h9) (
 K4 (s3.1, ()) h9)) fun K5 =>
 PIf (decide (((t32.len : Nat) : Int) > (0 : Int))) (
 PIf (decide (s3.1 < (0 : Int))) (
 K5 (true, ()) h7) (
 Idx t32.p t32.len 0 fun a3 =>
 LoadS h7 (a3.add ((0 : Int).toNat * 3)) fun t43 =>
 Idx s.1.p s.1.len s3.1 fun a4 =>
 LoadL h7 (a4.add (s3.1.toNat * 1)) fun t47 =>
 Idx t47.p t47.len 0 fun a5 =>
 LoadS h7 (a5.add ((0 : Int).toNat * 3)) fun t50 =>
 K5 ((sLt t43 t50), ()) h7)) (
 K5 (false, ()) h7)) (
 PIf (decide (s3.1 < (0 : Int))) (
 R (.tuple #[]) h7) (
 Idx s.1.p s.1.len s3.1 fun a6 =>
 LoadL h7 (a6.add (s3.1.toNat * 1)) fun t61 =>
 Idx t61.p t61.len 0 fun a7 =>
 LoadS h7 (a7.add ((0 : Int).toNat * 3)) fun t63_0 =>
 LoadS h7 ((a7.add ((0 : Int).toNat * 3)).add 1) fun t63_1 =>
 LoadB h7 ((a7.add ((0 : Int).toNat * 3)).add 2) fun t63_2 =>
 New h7 (.cells #[.string (⟨#[]⟩ : ByteArray), .string (⟨#[]⟩ : ByteArray), .bool false] t_api_Pair) fun b1 h10 =>
 Store h10 (⟨b1, 0, none⟩ : Addr) (.string t63_0) fun h11 =>
 Store h11 ((⟨b1, 0, none⟩ : Addr).add 1) (.string t63_1) fun h12 =>
 Store h12 ((⟨b1, 0, none⟩ : Addr).add 2) (.bool t63_2) fun h13 =>
 Loop (fun K6 (s5 : Int × Unit) h14 =>
 PIf (decide (s5.1 < ((s.1.len : Nat) : Int))) (
 Idx s.1.p s.1.len s5.1 fun a8 =>
 LoadL h14 (a8.add (s5.1.toNat * 1)) fun t70 =>
 Loop (fun K7 (s6 : Sl × Unit) h15 =>
 Join (fun (r1 : Bool × Unit) h16 =>
 PIf r1.1 (
 Chk ((0 : Int) ≤ 1 ∧ 1 ≤ ((s6.1.len : Nat) : Int)) <|
 K7 ((⟨(slOff s6.1.p s6.1.cap ((1 : Int).toNat) 3), (s6.1.len - ((1 : Int).toNat)), (s6.1.cap - ((1 : Int).toNat))⟩ : Sl), ()) h16) (
 Idx s.1.p s.1.len s5.1 fun a9 =>
 Store h16 (a9.add (s5.1.toNat * 1)) (.slice s6.1.p s6.1.len s6.1.cap) fun h17 =>
 K6 ((IntKind.wrap .i64 (s5.1 + (1 : Int))), ()) h17)) fun K8 =>
 PIf (decide (((s6.1.len : Nat) : Int) > (0 : Int))) (
 Idx s6.1.p s6.1.len 0 fun a10 =>
 LoadS h15 (a10.add ((0 : Int).toNat * 3)) fun t78 =>
 LoadS h15 (⟨b1, 0, none⟩ : Addr) fun t80 =>
 K8 ((sLt t78 t80 || sEq t78 t80), ()) h15) (
 K8 (false, ()) h15)) ((⟨t70.p, t70.len, t70.cap⟩ : Sl), ()) h14) (
 LoadS h14 (⟨b1, 0, none⟩ : Addr) fun t91_0 =>
 LoadS h14 ((⟨b1, 0, none⟩ : Addr).add 1) fun t91_1 =>
 LoadB h14 ((⟨b1, 0, none⟩ : Addr).add 2) fun t91_2 =>
 CallV A P yield #[.agg #[.string t91_0, .string t91_1, .bool t91_2]] h14 fun v2 h18 => ∃ t92 : Bool, v2 = .bool t92 ∧ (
 PIf (!t92) (
 R (.tuple #[]) h18) (
 K2 () h18)))) (0, ()) h13))) ((-1), 0, ()) h6) () h1)) ((⟨none, 0, 0⟩ : Sl), 0, ()) h
def a_merge_All_1 : Ann := .seq .none (.seq (.seq .none (.block (.loop [(3, .one .sl), (14, .one (.int .i64))] [0, 12, 13] (.seq .none (.seq (.cond .none .none) (.seq (.blockJ [(3, .one .sl)] [0, 12, 13, 14] (.seq .none (.seq .none (.cond .none .none)))) .none)))))) (.block (.loop [] [0, 3] (.block (.seq .none (.seq (.seq .none (.block (.loop [(6, .one (.int .i64)), (28, .one (.int .i64))] [0, 3, 26, 27] (.seq .none (.seq (.cond .none .none) (.seq (.blockJ [(6, .one (.int .i64))] [0, 3, 26, 27, 28] (.seq .none (.seq (.reg [(53, .one .bool)] [0, 3, 6, 7, 26, 27, 28]) (.cond .none .none)))) .none)))))) (.seq (.seq .none (.cond .none .none)) (.seq .none (.seq (.seq .none (.block (.loop [(66, .one (.int .i64))] [0, 3, 9, 64, 65] (.seq .none (.seq (.cond .none .none) (.seq (.block (.seq .none (.seq (.block (.loop [(11, .one .sl)] [0, 3, 9, 10, 64, 65, 66] (.seq (.seq (.reg [(82, .one .bool)] [0, 3, 9, 10, 11, 64, 65, 66]) (.cond .none .none)) (.block .none)))) .none))) .none)))))) (.seq .none (.cond .none .none)))))))))))
theorem e_merge_All_1 (A : Amb) (yield : Value) (c0 : Option Addr) (h : Heap) (R : Value → Heap → Prop) : F_merge_All_1 A yield c0 h R = semFun A P f_merge_All_1 a_merge_All_1 [yield, .pointer c0] h R := by kernel_rfl
theorem ok_merge_All_1 {A : Amb} {yield : Value} {c0 : Option Addr} {h : Heap} {R : Value → Heap → Prop} (H : F_merge_All_1 A yield c0 h R) : HCalls A P f_merge_All_1 #[yield, .pointer c0] h R :=
 semFun_sound mixed (e_merge_All_1 A yield c0 h R ▸ H)
/-- wherry/wal.number -/
def F_wal_number (A : Amb) (name : ByteArray) (s : ByteArray) (h : Heap) (R : Value → Heap → Prop) : Prop :=
 HCalls A P f_strings_CutPrefix #[.string s, .string name] h fun v h1 => ∃ t12a : ByteArray, ∃ t12b : Bool, v = .tuple #[.string t12a, .bool t12b] ∧ (
 Join (fun (r : Bool × Unit) h2 =>
 PIf r.1 (
 R (.int .i64 0) h2) (
 HCalls A P f_strconv_ParseUint #[.string t12a, .int .i64 10, .int .i64 32] h2 fun v1 h3 => ∃ t24a : Int, ∃ t24b : Value, v1 = .tuple #[.int .u64 t24a, t24b] ∧ (
 Join (fun (r1 : Bool × Unit) h4 =>
 PIf r1.1 (
 R (.int .i64 0) h4) (
 R (.int .i64 (IntKind.wrap .i64 t24a)) h4)) fun K1 =>
 Chk (isIf t24b) <|
 PIf (!(isNilI t24b)) (
 K1 (true, ()) h3) (
 HCalls A P f_wal_file #[.string name, .int .i64 (IntKind.wrap .i64 t24a)] h3 fun v2 h5 => ∃ t33 : ByteArray, v2 = .string t33 ∧ (
 K1 ((!sEq t33 s), ()) h5))))) fun K =>
 PIf (!t12b) (
 K (true, ()) h1) (
 K (((t12a.size : Int) != (8 : Int)), ()) h1))
def a_wal_number : Ann := .seq .none (.seq .none (.seq (.seq (.reg [(21, .one .bool)] [0, 1, 5]) (.cond (.seq .none .none) .none)) (.seq .none (.seq (.seq (.reg [(36, .one .bool)] [7]) (.cond (.seq .none .none) .none)) (.seq .none .none)))))
theorem e_wal_number (A : Amb) (name : ByteArray) (s : ByteArray) (h : Heap) (R : Value → Heap → Prop) : F_wal_number A name s h R = semFun A P f_wal_number a_wal_number [.string name, .string s] h R := by kernel_rfl
theorem ok_wal_number {A : Amb} {name : ByteArray} {s : ByteArray} {h : Heap} {R : Value → Heap → Prop} (H : F_wal_number A name s h R) : HCalls A P f_wal_number #[.string name, .string s] h R :=
 semFun_sound mixed (e_wal_number A name s h R ▸ H)
/-- wherry/frame.Next -/
def F_frame_Next (A : Amb) (s : ByteArray) (h : Heap) (R : Value → Heap → Prop) : Prop :=
 HCalls A P f_vary_Get #[.string s] h fun v h1 => ∃ t12a : Int, ∃ t12b : ByteArray, ∃ t12c : Bool, v = .tuple #[.int .u64 t12a, .string t12b, .bool t12c] ∧ (
 Join (fun (r : Bool × Unit) h2 =>
 PIf r.1 (
 Loop (fun K1 (s1 : Int × Unit) h3 =>
 PIf (decide (s1.1 < (s.size : Int))) (
 Chk ((0 : Int) ≤ s1.1 ∧ s1.1 < (s.size : Int)) <|
 PIf (decide ((sAt s s1.1) < (128 : Int))) (
 R (.tuple #[.string (⟨#[]⟩ : ByteArray), .string (⟨#[]⟩ : ByteArray), .int .i64 21]) h3) (
 K1 ((IntKind.wrap .i64 (s1.1 + (1 : Int))), ()) h3)) (
 R (.tuple #[.string (⟨#[]⟩ : ByteArray), .string (⟨#[]⟩ : ByteArray), .int .i64 20]) h3)) (0, ()) h2) (
 Join (fun (r1 : Bool × Unit) h4 =>
 PIf r1.1 (
 R (.tuple #[.string (⟨#[]⟩ : ByteArray), .string (⟨#[]⟩ : ByteArray), .int .i64 21]) h4) (
 Join (fun (r2 : Bool × Unit) h5 =>
 PIf r2.1 (
 R (.tuple #[.string (⟨#[]⟩ : ByteArray), .string (⟨#[]⟩ : ByteArray), .int .i64 20]) h5) (
 Chk ((0 : Int) ≤ (IntKind.wrap .u64 ((4 : Int) + t12a)) ∧ (IntKind.wrap .u64 ((4 : Int) + t12a)) ≤ ((t12b.size : Nat) : Int)) <|
 Chk ((0 : Int) ≤ 4 ∧ 4 ≤ (((IntKind.wrap .u64 ((4 : Int) + t12a)).toNat : Nat) : Int)) <|
 Chk ((0 : Int) ≤ 4 ∧ 4 ≤ ((t12b.size : Nat) : Int)) <|
 HCalls A P f_frame_Sum #[.string (t12b.extract ((4 : Int).toNat) ((IntKind.wrap .u64 ((4 : Int) + t12a)).toNat))] h5 fun v1 h6 => ∃ t60 : Int, v1 = .int .u32 t60 ∧ (
 HCalls A P f_frame_mark #[.int .u32 t60] h6 fun v2 h7 => ∃ t61 : ByteArray, v2 = .string t61 ∧ (
 PIf (!sEq (t12b.extract 0 ((4 : Int).toNat)) t61) (
 R (.tuple #[.string (⟨#[]⟩ : ByteArray), .string (⟨#[]⟩ : ByteArray), .int .i64 21]) h7) (
 Chk ((0 : Int) ≤ (IntKind.wrap .u64 ((4 : Int) + t12a)) ∧ (IntKind.wrap .u64 ((4 : Int) + t12a)) ≤ ((t12b.size : Nat) : Int)) <|
 R (.tuple #[.string (t12b.extract ((4 : Int).toNat) ((IntKind.wrap .u64 ((4 : Int) + t12a)).toNat)), .string (t12b.extract ((IntKind.wrap .u64 ((4 : Int) + t12a)).toNat) t12b.size), .int .i64 0]) h7))))) fun K3 =>
 PIf (decide ((t12b.size : Int) < (4 : Int))) (
 K3 (true, ()) h4) (
 K3 ((decide ((IntKind.wrap .u64 (IntKind.wrap .i64 ((t12b.size : Int) - (4 : Int)))) < t12a)), ()) h4))) fun K2 =>
 PIf (!t12c) (
 K2 (true, ()) h2) (
 K2 ((decide (t12a > (1048576 : Int))), ()) h2))) fun K =>
 PIf (!t12c) (
 K ((decide ((s.size : Int) < (10 : Int))), ()) h1) (
 K (false, ()) h1))
def a_frame_Next : Ann := .seq .none (.seq .none (.seq (.block (.seq (.reg [(16, .one .bool)] [0, 5, 6, 7]) (.cond (.seq (.seq .none (.block (.loop [(26, .one (.int .i64))] [0, 25] (.seq .none (.seq (.cond .none .none) (.seq (.block (.seq .none (.seq .none (.cond (.seq .none .none) .none)))) .none)))))) (.seq .none .none)) (.seq (.reg [(34, .one .bool)] [5, 6]) (.cond (.seq .none .none) (.seq (.reg [(41, .one .bool)] [5, 6]) (.cond (.seq .none .none) .none))))))) (.seq .none (.seq (.seq .none (.cond (.seq .none .none) .none)) (.seq .none .none)))))
theorem e_frame_Next (A : Amb) (s : ByteArray) (h : Heap) (R : Value → Heap → Prop) : F_frame_Next A s h R = semFun A P f_frame_Next a_frame_Next [.string s] h R := by kernel_rfl
theorem ok_frame_Next {A : Amb} {s : ByteArray} {h : Heap} {R : Value → Heap → Prop} (H : F_frame_Next A s h R) : HCalls A P f_frame_Next #[.string s] h R :=
 semFun_sound mixed (e_frame_Next A s h R ▸ H)
/-- wherry/vary.Get -/
def F_vary_Get (A : Amb) (s : ByteArray) (h : Heap) (R : Value → Heap → Prop) : Prop :=
 Loop (fun K (s1 : Int × Int × Unit) h1 =>
 PIf (decide (s1.2.1 < (if (10 : Int) < (s.size : Int) then 10 else (s.size : Int)))) (
 Chk ((0 : Int) ≤ s1.2.1 ∧ s1.2.1 < (s.size : Int)) <|
 Join (fun (r : Bool × Unit) h2 =>
 PIf r.1 (
 R (.tuple #[.int .u64 0, .string (⟨#[]⟩ : ByteArray), .bool false]) h2) (
 Chk ((0 : Int) ≤ (IntKind.wrap .i64 ((7 : Int) * s1.2.1))) <|
 PIf (decide ((sAt s s1.2.1) < (128 : Int))) (
 Chk ((0 : Int) ≤ (IntKind.wrap .i64 (s1.2.1 + (1 : Int))) ∧ (IntKind.wrap .i64 (s1.2.1 + (1 : Int))) ≤ ((s.size : Nat) : Int)) <|
 R (.tuple #[.int .u64 (bOr .u64 s1.1 (IntKind.wrap .u64 ((IntKind.wrap .u64 (bAnd .u8 (sAt s s1.2.1) (127 : Int))) * ((2 : Int) ^ (min (IntKind.wrap .i64 ((7 : Int) * s1.2.1)).toNat (IntKind.bits .u64)))))), .string (s.extract ((IntKind.wrap .i64 (s1.2.1 + (1 : Int))).toNat) s.size), .bool true]) h2) (
 K ((bOr .u64 s1.1 (IntKind.wrap .u64 ((IntKind.wrap .u64 (bAnd .u8 (sAt s s1.2.1) (127 : Int))) * ((2 : Int) ^ (min (IntKind.wrap .i64 ((7 : Int) * s1.2.1)).toNat (IntKind.bits .u64)))))), (IntKind.wrap .i64 (s1.2.1 + (1 : Int))), ()) h2))) fun K1 =>
 PIf (s1.2.1 == (9 : Int)) (
 PIf (decide ((sAt s s1.2.1) > (1 : Int))) (
 K1 (true, ()) h1) (
 PIf (decide (s1.2.1 > (0 : Int))) (
 K1 (((sAt s s1.2.1) == (0 : Int)), ()) h1) (
 K1 (false, ()) h1))) (
 PIf (decide (s1.2.1 > (0 : Int))) (
 K1 (((sAt s s1.2.1) == (0 : Int)), ()) h1) (
 K1 (false, ()) h1))) (
 R (.tuple #[.int .u64 0, .string (⟨#[]⟩ : ByteArray), .bool false]) h1)) (0, 0, ()) h
def a_vary_Get : Ann := .seq .none (.seq .none (.seq (.seq .none (.block (.loop [(5, .one (.int .u64)), (11, .one (.int .i64))] [0, 10] (.seq .none (.seq (.cond .none .none) (.seq (.block (.seq .none (.seq .none (.seq (.seq (.reg [(30, .one .bool)] [0, 5, 6, 7, 10, 11]) (.cond (.seq .none .none) .none)) (.seq .none (.seq .none (.cond (.seq .none .none) .none))))))) .none)))))) (.seq .none .none)))
theorem e_vary_Get (A : Amb) (s : ByteArray) (h : Heap) (R : Value → Heap → Prop) : F_vary_Get A s h R = semFun A P f_vary_Get a_vary_Get [.string s] h R := by kernel_rfl
theorem ok_vary_Get {A : Amb} {s : ByteArray} {h : Heap} {R : Value → Heap → Prop} (H : F_vary_Get A s h R) : HCalls A P f_vary_Get #[.string s] h R :=
 semFun_sound mixed (e_vary_Get A s h R ▸ H)
/-- (*wherry/vary.Reader).Bad -/
def F_vary_Reader_Bad (A : Amb) (r : Option Addr) (h : Heap) (R : Value → Heap → Prop) : Prop :=
 PIf (r.isNone) (
 R (.bool true) h) (
 At r fun a =>
 LoadB h (a.add 1) fun t9 =>
 R (.bool t9) h)
def a_vary_Reader_Bad : Ann := .seq .none (.seq .none .none)
theorem e_vary_Reader_Bad (A : Amb) (r : Option Addr) (h : Heap) (R : Value → Heap → Prop) : F_vary_Reader_Bad A r h R = semFun A P f_vary_Reader_Bad a_vary_Reader_Bad [.pointer r] h R := by kernel_rfl
theorem ok_vary_Reader_Bad {A : Amb} {r : Option Addr} {h : Heap} {R : Value → Heap → Prop} (H : F_vary_Reader_Bad A r h R) : HCalls A P f_vary_Reader_Bad #[.pointer r] h R :=
 semFun_sound mixed (e_vary_Reader_Bad A r h R ▸ H)
/-- wherry/bloom.Hash -/
def F_bloom_Hash (A : Amb) (key : ByteArray) (h : Heap) (R : Value → Heap → Prop) : Prop :=
 Loop (fun K (s : Int × Int × Int × Unit) h1 =>
 PIf (decide (s.2.2.1 < (key.size : Int))) (
 Chk ((0 : Int) ≤ s.2.2.1 ∧ s.2.2.1 < (key.size : Int)) <|
 Chk ((0 : Int) ≤ s.2.2.1 ∧ s.2.2.1 < (key.size : Int)) <|
 K ((IntKind.wrap .u32 ((bXor .u32 s.1 (IntKind.wrap .u32 (sAt key s.2.2.1))) * (16777619 : Int))), (bXor .u32 (IntKind.wrap .u32 ((IntKind.wrap .u32 (s.2.1 + (IntKind.wrap .u32 (sAt key s.2.2.1)))) * (2246822507 : Int))) ((IntKind.wrap .u32 ((IntKind.wrap .u32 (s.2.1 + (IntKind.wrap .u32 (sAt key s.2.2.1)))) * (2246822507 : Int))).fdiv ((2 : Int) ^ (13 : Nat)))), (IntKind.wrap .i64 (s.2.2.1 + (1 : Int))), ()) h1) (
 R (.tuple #[.int .u32 s.1, .int .u32 (bOr .u32 s.2.1 (1 : Int))]) h1)) (2166136261, 2538058380, 0, ()) h
def a_bloom_Hash : Ann := .seq .none (.seq .none (.seq (.seq .none (.block (.loop [(4, .one (.int .u32)), (5, .one (.int .u32)), (9, .one (.int .i64))] [0, 8] (.seq .none (.seq (.cond .none .none) (.seq (.block (.seq .none (.seq .none (.seq .none .none)))) .none)))))) (.seq .none .none)))
theorem e_bloom_Hash (A : Amb) (key : ByteArray) (h : Heap) (R : Value → Heap → Prop) : F_bloom_Hash A key h R = semFun A P f_bloom_Hash a_bloom_Hash [.string key] h R := by kernel_rfl
theorem ok_bloom_Hash {A : Amb} {key : ByteArray} {h : Heap} {R : Value → Heap → Prop} (H : F_bloom_Hash A key h R) : HCalls A P f_bloom_Hash #[.string key] h R :=
 semFun_sound mixed (e_bloom_Hash A key h R ▸ H)
/-- wherry/frame.mark -/
def F_frame_mark (A : Amb) (n : Int) (h : Heap) (R : Value → Heap → Prop) : Prop :=
 New h (.cells #[.int .u8 (IntKind.wrap .u8 (n.fdiv ((2 : Int) ^ (24 : Nat)))), .int .u8 (IntKind.wrap .u8 (n.fdiv ((2 : Int) ^ (16 : Nat)))), .int .u8 (IntKind.wrap .u8 (n.fdiv ((2 : Int) ^ (8 : Nat)))), .int .u8 (IntKind.wrap .u8 n)] t_uint8) fun b h1 =>
 RunK A P (convert t_sl_uint8 t_string (.slice (some (⟨b, 0, none⟩ : Addr)) 4 4)) h1 fun v h2 => ∃ t15 : ByteArray, v = .string t15 ∧ (
 R (.string t15) h2)
def a_frame_mark : Ann := .seq .none (.seq .none .none)
theorem e_frame_mark (A : Amb) (n : Int) (h : Heap) (R : Value → Heap → Prop) : F_frame_mark A n h R = semFun A P f_frame_mark a_frame_mark [.int .u32 n] h R := by kernel_rfl
theorem ok_frame_mark {A : Amb} {n : Int} {h : Heap} {R : Value → Heap → Prop} (H : F_frame_mark A n h R) : HCalls A P f_frame_mark #[.int .u32 n] h R :=
 semFun_sound mixed (e_frame_mark A n h R ▸ H)
/-- wherry/frame.Sum -/
def F_frame_Sum (A : Amb) (s : ByteArray) (h : Heap) (R : Value → Heap → Prop) : Prop :=
 Loop (fun K (s1 : Int × Int × Unit) h1 =>
 PIf (decide (s1.2.1 < (s.size : Int))) (
 Chk ((0 : Int) ≤ s1.2.1 ∧ s1.2.1 < (s.size : Int)) <|
 Loop (fun K1 (s2 : Int × Int × Unit) h2 =>
 PIf (decide (s2.2.1 < (8 : Int))) (
 K1 ((bXor .u32 (s2.1.fdiv ((2 : Int) ^ (1 : Nat))) (bAnd .u32 (3988292384 : Int) (IntKind.wrap .u32 (0 - (bAnd .u32 s2.1 (1 : Int)))))), (IntKind.wrap .i64 (s2.2.1 + (1 : Int))), ()) h2) (
 K (s2.1, (IntKind.wrap .i64 (s1.2.1 + (1 : Int))), ()) h2)) ((bXor .u32 s1.1 (IntKind.wrap .u32 (sAt s s1.2.1))), 0, ()) h1) (
 R (.int .u32 (bXor .u32 (if IntKind.signed .u32 then -1 else IntKind.max .u32) s1.1)) h1)) (4294967295, 0, ()) h
def a_frame_Sum : Ann := .seq .none (.seq .none (.seq (.seq .none (.block (.loop [(3, .one (.int .u32)), (7, .one (.int .i64))] [0, 6] (.seq .none (.seq (.cond .none .none) (.seq (.block (.seq .none (.seq .none (.seq .none (.block (.loop [(3, .one (.int .u32)), (16, .one (.int .i64))] [0, 6, 7] (.seq .none (.seq (.cond .none .none) (.seq (.block .none) .none))))))))) .none)))))) (.seq .none .none)))
theorem e_frame_Sum (A : Amb) (s : ByteArray) (h : Heap) (R : Value → Heap → Prop) : F_frame_Sum A s h R = semFun A P f_frame_Sum a_frame_Sum [.string s] h R := by kernel_rfl
theorem ok_frame_Sum {A : Amb} {s : ByteArray} {h : Heap} {R : Value → Heap → Prop} (H : F_frame_Sum A s h R) : HCalls A P f_frame_Sum #[.string s] h R :=
 semFun_sound mixed (e_frame_Sum A s h R ▸ H)
/-- slices.Values[[]wherry/api.Pair,wherry/api.Pair]$1 -/
def F_slices_Values_of___api_Pair_api_Pair_1 (A : Amb) (yield : Value) (c0 : Option Addr) (h : Heap) (R : Value → Heap → Prop) : Prop :=
 At c0 fun a =>
 LoadL h a fun t5 =>
 Loop (fun K (s : Int × Unit) h1 =>
 PIf (decide (s.1 < ((t5.len : Nat) : Int))) (
 Idx t5.p t5.len s.1 fun a1 =>
 LoadS h1 (a1.add (s.1.toNat * 3)) fun t10_0 =>
 LoadS h1 ((a1.add (s.1.toNat * 3)).add 1) fun t10_1 =>
 LoadB h1 ((a1.add (s.1.toNat * 3)).add 2) fun t10_2 =>
 New h1 (.cells #[.string (⟨#[]⟩ : ByteArray), .string (⟨#[]⟩ : ByteArray), .bool false] t_api_Pair) fun b h2 =>
 Store h2 (⟨b, 0, none⟩ : Addr) (.string t10_0) fun h3 =>
 Store h3 ((⟨b, 0, none⟩ : Addr).add 1) (.string t10_1) fun h4 =>
 Store h4 ((⟨b, 0, none⟩ : Addr).add 2) (.bool t10_2) fun h5 =>
 LoadS h5 (⟨b, 0, none⟩ : Addr) fun t12_0 =>
 LoadS h5 ((⟨b, 0, none⟩ : Addr).add 1) fun t12_1 =>
 LoadB h5 ((⟨b, 0, none⟩ : Addr).add 2) fun t12_2 =>
 CallV A P yield #[.agg #[.string t12_0, .string t12_1, .bool t12_2]] h5 fun v h6 => ∃ t13 : Bool, v = .bool t13 ∧ (
 PIf (!t13) (
 R (.tuple #[]) h6) (
 K ((IntKind.wrap .i64 (s.1 + (1 : Int))), ()) h6))) (
 R (.tuple #[]) h1)) (0, ()) h
def a_slices_Values_of___api_Pair_api_Pair_1 : Ann := .seq .none (.block (.loop [(7, .one (.int .i64))] [0, 5, 6] (.seq .none (.seq (.cond .none .none) (.seq (.block (.seq .none (.seq .none (.cond .none .none)))) .none)))))
theorem e_slices_Values_of___api_Pair_api_Pair_1 (A : Amb) (yield : Value) (c0 : Option Addr) (h : Heap) (R : Value → Heap → Prop) : F_slices_Values_of___api_Pair_api_Pair_1 A yield c0 h R = semFun A P f_slices_Values_of___api_Pair_api_Pair_1 a_slices_Values_of___api_Pair_api_Pair_1 [yield, .pointer c0] h R := by kernel_rfl
theorem ok_slices_Values_of___api_Pair_api_Pair_1 {A : Amb} {yield : Value} {c0 : Option Addr} {h : Heap} {R : Value → Heap → Prop} (H : F_slices_Values_of___api_Pair_api_Pair_1 A yield c0 h R) : HCalls A P f_slices_Values_of___api_Pair_api_Pair_1 #[yield, .pointer c0] h R :=
 semFun_sound mixed (e_slices_Values_of___api_Pair_api_Pair_1 A yield c0 h R ▸ H)
/-- (*wherry/table.Table).block$1 -/
def F_table_Table_block_1 (A : Amb) (i : Int) (c0 : Option Addr) (c1 : Option Addr) (h : Heap) (R : Value → Heap → Prop) : Prop :=
 At c0 fun a =>
 LoadP h a fun t5 =>
 At t5 fun a1 =>
 LoadL h a1 fun t8 =>
 Idx t8.p t8.len i fun a2 =>
 LoadS h (a2.add (i.toNat * 1)) fun t11 =>
 At c1 fun a3 =>
 LoadS h a3 fun t12 =>
 R (.bool (!(sLt t11 t12 || sEq t11 t12))) h
def a_table_Table_block_1 : Ann := .seq .none (.seq .none .none)
theorem e_table_Table_block_1 (A : Amb) (i : Int) (c0 : Option Addr) (c1 : Option Addr) (h : Heap) (R : Value → Heap → Prop) : F_table_Table_block_1 A i c0 c1 h R = semFun A P f_table_Table_block_1 a_table_Table_block_1 [.int .i64 i, .pointer c0, .pointer c1] h R := by kernel_rfl
theorem ok_table_Table_block_1 {A : Amb} {i : Int} {c0 : Option Addr} {c1 : Option Addr} {h : Heap} {R : Value → Heap → Prop} (H : F_table_Table_block_1 A i c0 c1 h R) : HCalls A P f_table_Table_block_1 #[.int .i64 i, .pointer c0, .pointer c1] h R :=
 semFun_sound mixed (e_table_Table_block_1 A i c0 c1 h R ▸ H)
/-- slices.Chunk[[]wherry/api.Pair,wherry/api.Pair] -/
def F_slices_Chunk_of___api_Pair_api_Pair (A : Amb) (s : Sl) (n : Int) (h : Heap) (R : Value → Heap → Prop) : Prop :=
 New h (.cells #[.slice s.p s.len s.cap] t_sl_api_Pair) fun b h1 =>
 New h1 (.cells #[.int .i64 n] t_int) fun b1 h2 =>
 Join (fun (s1 : Unit) h3 =>
 R ((.func (.func f_slices_Chunk_of___api_Pair_api_Pair_1) #[] #[.pointer (some (⟨b, 0, none⟩ : Addr)), .pointer (some (⟨b1, 0, none⟩ : Addr))])) h3) fun K =>
 LoadI .i64 h2 (⟨b1, 0, none⟩ : Addr) fun t5 =>
 PIf (decide (t5 < (1 : Int))) (
 False) (
 K () h2)
def a_slices_Chunk_of___api_Pair_api_Pair : Ann := .seq .none (.seqJ [] [2, 3] (.seq .none (.cond .none .none)) (.seq .none .none))
theorem e_slices_Chunk_of___api_Pair_api_Pair (A : Amb) (s : Sl) (n : Int) (h : Heap) (R : Value → Heap → Prop) : F_slices_Chunk_of___api_Pair_api_Pair A s n h R = semFun A P f_slices_Chunk_of___api_Pair_api_Pair a_slices_Chunk_of___api_Pair_api_Pair [.slice s.p s.len s.cap, .int .i64 n] h R := by kernel_rfl
theorem ok_slices_Chunk_of___api_Pair_api_Pair {A : Amb} {s : Sl} {n : Int} {h : Heap} {R : Value → Heap → Prop} (H : F_slices_Chunk_of___api_Pair_api_Pair A s n h R) : HCalls A P f_slices_Chunk_of___api_Pair_api_Pair #[.slice s.p s.len s.cap, .int .i64 n] h R :=
 semFun_sound mixed (e_slices_Chunk_of___api_Pair_api_Pair A s n h R ▸ H)
/-- wherry/table.pair -/
def F_table_pair (A : Amb) (p_0 : ByteArray) (p_1 : ByteArray) (p_2 : Bool) (h : Heap) (R : Value → Heap → Prop) : Prop :=
 New h (.cells #[.string p_0, .string p_1, .bool p_2] t_api_Pair) fun b h1 =>
 LoadB h1 ((⟨b, 0, none⟩ : Addr).add 2) fun t4 =>
 PIf t4 (
 LoadS h1 (⟨b, 0, none⟩ : Addr) fun t6 =>
 HCalls A P f_vary_Text #[.string t6] h1 fun v h2 => ∃ t7 : ByteArray, v = .string t7 ∧ (
 HCalls A P f_vary_Put #[.int .u64 0] h2 fun v1 h3 => ∃ t8 : ByteArray, v1 = .string t8 ∧ (
 Chk (((t7.size + t8.size : Nat) : Int) ≤ IntKind.i64.max) <|
 R (.string (t7 ++ t8)) h3))) (
 LoadS h1 (⟨b, 0, none⟩ : Addr) fun t11 =>
 HCalls A P f_vary_Text #[.string t11] h1 fun v2 h4 => ∃ t12 : ByteArray, v2 = .string t12 ∧ (
 LoadS h4 ((⟨b, 0, none⟩ : Addr).add 1) fun t14 =>
 And (hget h1 ((⟨b, 0, none⟩ : Addr).add 1) = some (.string t14)) <|
 HCalls A P f_vary_Put #[.int .u64 (IntKind.wrap .u64 ((IntKind.wrap .u64 (t14.size : Int)) + (1 : Int)))] h4 fun v3 h5 => ∃ t18 : ByteArray, v3 = .string t18 ∧ (
 Chk (((t12.size + t18.size : Nat) : Int) ≤ IntKind.i64.max) <|
 LoadS h5 ((⟨b, 0, none⟩ : Addr).add 1) fun t21 =>
 And (hget h4 ((⟨b, 0, none⟩ : Addr).add 1) = some (.string t21)) <|
 And (hget h1 ((⟨b, 0, none⟩ : Addr).add 1) = some (.string t21)) <|
 Chk ((((t12 ++ t18).size + t21.size : Nat) : Int) ≤ IntKind.i64.max) <|
 R (.string ((t12 ++ t18) ++ t21)) h5)))
def a_table_pair : Ann := .seq .none (.seq (.seq .none (.cond (.seq .none .none) .none)) (.seq .none .none))
theorem e_table_pair (A : Amb) (p_0 : ByteArray) (p_1 : ByteArray) (p_2 : Bool) (h : Heap) (R : Value → Heap → Prop) : F_table_pair A p_0 p_1 p_2 h R = semFun A P f_table_pair a_table_pair [.agg #[.string p_0, .string p_1, .bool p_2]] h R := by kernel_rfl
theorem ok_table_pair {A : Amb} {p_0 : ByteArray} {p_1 : ByteArray} {p_2 : Bool} {h : Heap} {R : Value → Heap → Prop} (H : F_table_pair A p_0 p_1 p_2 h R) : HCalls A P f_table_pair #[.agg #[.string p_0, .string p_1, .bool p_2]] h R :=
 semFun_sound mixed (e_table_pair A p_0 p_1 p_2 h R ▸ H)
/-- wherry/bloom.Make -/
def F_bloom_Make (A : Amb) (keys : Sl) (bytes : Int) (h : Heap) (R : Value → Heap → Prop) : Prop :=
 Join (fun (r : Bool × Unit) h1 =>
 PIf r.1 (
 R (.tuple #[.string (⟨#[]⟩ : ByteArray), .int .i64 1]) h1) (
 RunK A P (Instr.makeSlice t_sl_uint8 (.int .i64 bytes) (.int .i64 bytes)) h1 fun v h2 => ∃ t19 : Sl, v = .slice t19.p t19.len t19.cap ∧ (
 Loop (fun K1 (s : Int × Unit) h3 =>
 PIf (decide (s.1 < ((keys.len : Nat) : Int))) (
 Idx keys.p keys.len s.1 fun a =>
 LoadS h3 (a.add (s.1.toNat * 1)) fun t25 =>
 HCalls A P f_bloom_Hash #[.string t25] h3 fun v1 h4 => ∃ t28a : Int, ∃ t28b : Int, v1 = .tuple #[.int .u32 t28a, .int .u32 t28b] ∧ (
 Loop (fun K2 (s1 : Int × Int × Unit) h5 =>
 PIf (decide (s1.2.1 < (4 : Int))) (
 Chk ((IntKind.wrap .u32 (IntKind.wrap .i64 ((8 : Int) * bytes))) ≠ 0) <|
 Idx t19.p t19.len (IntKind.wrap .u32 ((s1.1.tmod (IntKind.wrap .u32 (IntKind.wrap .i64 ((8 : Int) * bytes)))).tdiv (8 : Int))) fun a1 =>
 LoadI .u8 h5 (a1.add ((IntKind.wrap .u32 ((s1.1.tmod (IntKind.wrap .u32 (IntKind.wrap .i64 ((8 : Int) * bytes)))).tdiv (8 : Int))).toNat * 1)) fun t42 =>
 Chk ((0 : Int) ≤ ((s1.1.tmod (IntKind.wrap .u32 (IntKind.wrap .i64 ((8 : Int) * bytes)))).tmod (8 : Int))) <|
 Idx t19.p t19.len (IntKind.wrap .u32 ((s1.1.tmod (IntKind.wrap .u32 (IntKind.wrap .i64 ((8 : Int) * bytes)))).tdiv (8 : Int))) fun a2 =>
 Store h5 (a2.add ((IntKind.wrap .u32 ((s1.1.tmod (IntKind.wrap .u32 (IntKind.wrap .i64 ((8 : Int) * bytes)))).tdiv (8 : Int))).toNat * 1)) (.int .u8 (bOr .u8 t42 (IntKind.wrap .u8 ((1 : Int) * ((2 : Int) ^ (min ((s1.1.tmod (IntKind.wrap .u32 (IntKind.wrap .i64 ((8 : Int) * bytes)))).tmod (8 : Int)).toNat (IntKind.bits .u8))))))) fun h6 =>
 K2 ((IntKind.wrap .u32 (s1.1 + t28b)), (IntKind.wrap .i64 (s1.2.1 + (1 : Int))), ()) h6) (
 K1 ((IntKind.wrap .i64 (s.1 + (1 : Int))), ()) h5)) (t28a, 0, ()) h4)) (
 RunK A P (convert t_sl_uint8 t_string (.slice t19.p t19.len t19.cap)) h3 fun v2 h7 => ∃ t54 : ByteArray, v2 = .string t54 ∧ (
 R (.tuple #[.string t54, .int .i64 0]) h7))) (0, ()) h2))) fun K =>
 PIf (decide (bytes < (1 : Int))) (
 K (true, ()) h) (
 K ((decide (bytes > (8192 : Int))), ()) h)
def a_bloom_Make : Ann := .seq .none (.seq (.seq (.reg [(17, .one .bool)] [0, 1]) (.cond (.seq .none .none) .none)) (.seq .none (.seq (.seq .none (.block (.loop [(22, .one (.int .i64))] [1, 6, 20, 21] (.seq .none (.seq (.cond .none .none) (.seq (.block (.seq .none (.seq .none (.seq .none (.block (.loop [(9, .one (.int .u32)), (31, .one (.int .i64))] [1, 6, 10, 20, 21, 22] (.seq .none (.seq (.cond .none .none) (.seq (.block (.seq .none (.seq .none .none))) .none))))))))) .none)))))) (.seq .none .none))))
theorem e_bloom_Make (A : Amb) (keys : Sl) (bytes : Int) (h : Heap) (R : Value → Heap → Prop) : F_bloom_Make A keys bytes h R = semFun A P f_bloom_Make a_bloom_Make [.slice keys.p keys.len keys.cap, .int .i64 bytes] h R := by kernel_rfl
theorem ok_bloom_Make {A : Amb} {keys : Sl} {bytes : Int} {h : Heap} {R : Value → Heap → Prop} (H : F_bloom_Make A keys bytes h R) : HCalls A P f_bloom_Make #[.slice keys.p keys.len keys.cap, .int .i64 bytes] h R :=
 semFun_sound mixed (e_bloom_Make A keys bytes h R ▸ H)
/-- slices.Chunk[[]wherry/api.Pair,wherry/api.Pair]$1 -/
def F_slices_Chunk_of___api_Pair_api_Pair_1 (A : Amb) (yield : Value) (c0 : Option Addr) (c1 : Option Addr) (h : Heap) (R : Value → Heap → Prop) : Prop :=
 Loop (fun K (s : Int × Unit) h1 =>
 At c0 fun a =>
 LoadL h1 a fun t7 =>
 PIf (decide (s.1 < ((t7.len : Nat) : Int))) (
 At c1 fun a1 =>
 LoadI .i64 h1 a1 fun t13 =>
 At c0 fun a2 =>
 LoadL h1 a2 fun t14 =>
 Chk ((0 : Int) ≤ s.1 ∧ s.1 ≤ ((t14.len : Nat) : Int)) <|
 At c0 fun a3 =>
 LoadL h1 a3 fun t20 =>
 Chk ((0 : Int) ≤ (IntKind.wrap .i64 (s.1 + (if ((((t14.len - s.1.toNat) : Nat) : Int) : Int) < t13 then (((t14.len - s.1.toNat) : Nat) : Int) else t13))) ∧ (IntKind.wrap .i64 (s.1 + (if ((((t14.len - s.1.toNat) : Nat) : Int) : Int) < t13 then (((t14.len - s.1.toNat) : Nat) : Int) else t13))) ≤ ((t20.cap : Nat) : Int)) <|
 Chk ((0 : Int) ≤ (IntKind.wrap .i64 (s.1 + (if ((((t14.len - s.1.toNat) : Nat) : Int) : Int) < t13 then (((t14.len - s.1.toNat) : Nat) : Int) else t13))) ∧ (IntKind.wrap .i64 (s.1 + (if ((((t14.len - s.1.toNat) : Nat) : Int) : Int) < t13 then (((t14.len - s.1.toNat) : Nat) : Int) else t13))) ≤ ((((IntKind.wrap .i64 (s.1 + (if ((((t14.len - s.1.toNat) : Nat) : Int) : Int) < t13 then (((t14.len - s.1.toNat) : Nat) : Int) else t13))).toNat) : Nat) : Int)) <|
 Chk ((0 : Int) ≤ s.1 ∧ s.1 ≤ (((IntKind.wrap .i64 (s.1 + (if ((((t14.len - s.1.toNat) : Nat) : Int) : Int) < t13 then (((t14.len - s.1.toNat) : Nat) : Int) else t13))).toNat : Nat) : Int)) <|
 CallV A P yield #[.slice (slOff t20.p ((IntKind.wrap .i64 (s.1 + (if ((((t14.len - s.1.toNat) : Nat) : Int) : Int) < t13 then (((t14.len - s.1.toNat) : Nat) : Int) else t13))).toNat) s.1.toNat 3) (((IntKind.wrap .i64 (s.1 + (if ((((t14.len - s.1.toNat) : Nat) : Int) : Int) < t13 then (((t14.len - s.1.toNat) : Nat) : Int) else t13))).toNat) - s.1.toNat) (((IntKind.wrap .i64 (s.1 + (if ((((t14.len - s.1.toNat) : Nat) : Int) : Int) < t13 then (((t14.len - s.1.toNat) : Nat) : Int) else t13))).toNat) - s.1.toNat)] h1 fun v h2 => ∃ t29 : Bool, v = .bool t29 ∧ (
 PIf (!t29) (
 R (.tuple #[]) h2) (
 At c1 fun a4 =>
 LoadI .i64 h2 a4 fun t11 =>
 K ((IntKind.wrap .i64 (s.1 + t11)), ()) h2))) (
 R (.tuple #[]) h1)) (0, ()) h
def a_slices_Chunk_of___api_Pair_api_Pair_1 : Ann := .seq .none (.block (.loop [(4, .one (.int .i64))] [0, 1, 2] (.seq (.seq .none (.cond .none .none)) (.seq (.block (.seq .none (.seq .none (.cond .none .none)))) .none))))
theorem e_slices_Chunk_of___api_Pair_api_Pair_1 (A : Amb) (yield : Value) (c0 : Option Addr) (c1 : Option Addr) (h : Heap) (R : Value → Heap → Prop) : F_slices_Chunk_of___api_Pair_api_Pair_1 A yield c0 c1 h R = semFun A P f_slices_Chunk_of___api_Pair_api_Pair_1 a_slices_Chunk_of___api_Pair_api_Pair_1 [yield, .pointer c0, .pointer c1] h R := by kernel_rfl
theorem ok_slices_Chunk_of___api_Pair_api_Pair_1 {A : Amb} {yield : Value} {c0 : Option Addr} {c1 : Option Addr} {h : Heap} {R : Value → Heap → Prop} (H : F_slices_Chunk_of___api_Pair_api_Pair_1 A yield c0 c1 h R) : HCalls A P f_slices_Chunk_of___api_Pair_api_Pair_1 #[yield, .pointer c0, .pointer c1] h R :=
 semFun_sound mixed (e_slices_Chunk_of___api_Pair_api_Pair_1 A yield c0 c1 h R ▸ H)
end Go.Lf.G

