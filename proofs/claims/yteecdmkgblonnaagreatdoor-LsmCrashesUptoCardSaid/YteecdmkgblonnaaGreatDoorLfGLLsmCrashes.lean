/-
 The law LsmCrashes as a formula.
-/
import Derived.Test.YteecdmkgblonnaaGreatDoorLfG1
set_option linter.unusedVariables false
set_option linter.unusedSimpArgs false
set_option linter.unusedVariables false
set_option maxRecDepth 100000
namespace Go.Lf.G
open Go
def F_wherrylaw09_LsmCrashes (A : Amb) (calls : Sl) (crashes : Sl) (h : Heap) (R : Value → Heap → Prop) : Prop :=
 HCalls A P f_wherrylaw09_awake #[] h fun v h1 => ∃ t21 : Bool, v = .bool t21 ∧ (
 PIf (!t21) (
 R (.bool false) h1) (
 Join (fun (r : Bool × Unit) h2 =>
 PIf r.1 (
 R (.bool true) h2) (
 HCalls A P f_box_New #[] h2 fun v1 h3 => ∃ t31 : Option Addr, v1 = .pointer t31 ∧ (
 HCalls A P f_lsm_Open #[.pointer t31] h3 fun v2 h4 => ∃ t34a : Option Addr, ∃ t34b : Int, v2 = .tuple #[.pointer t34a, .int .i64 t34b] ∧ (
 PIf (t34b != (0 : Int)) (
 R (.bool false) h4) (
 New h4 (.cells #[.slice none 0 0] t_wherryref09_Map) fun b h5 =>
 LoadL h5 (⟨b, 0, none⟩ : Addr) fun t39_0 =>
 New h5 (.cells #[.slice t39_0.p t39_0.len t39_0.cap] t_wherryref09_Map) fun b1 h6 =>
 Loop (fun K1 (s : (Option Addr) × (Option Addr) × Sl × Int × Int × Unit) h7 =>
 PIf (decide (s.2.2.2.2.1 ≤ ((crashes.len : Nat) : Int))) (
 Join (fun (s1 : Unit) h8 =>
 Join (fun (s2 : Sl × Int × Unit) h9 =>
 Join (fun (s3 : Sl × Unit) h10 =>
 HCalls A P f_box_Box_Crash #[.pointer s.1, .slice s3.1.p s3.1.len s3.1.cap] h10 fun v3 h11 => ∃ t125 : Option Addr, v3 = .pointer t125 ∧ (
 Join (fun (s4 : (Option Addr) × Unit) h12 =>
 HCalls A P f_lsm_Open #[.pointer s4.1] h12 fun v4 h13 => ∃ t158a : Option Addr, ∃ t158b : Int, v4 = .tuple #[.pointer t158a, .int .i64 t158b] ∧ (
 PIf (t158b != (0 : Int)) (
 R (.bool false) h13) (
 Loop (fun K6 (s5 : Bool × Int × Unit) h14 =>
 PIf (decide (s5.2.1 < ((s2.1.len : Nat) : Int))) (
 Join (fun (s6 : Bool × Unit) h15 =>
 K6 (s6.1, (IntKind.wrap .i64 (s5.2.1 + (1 : Int))), ()) h15) fun K7 =>
 Idx s2.1.p s2.1.len s5.2.1 fun a =>
 LoadL h14 (a.add (s5.2.1.toNat * 1)) fun t168_0 =>
 New h14 (.cells #[.slice none 0 0] t_wherryref09_Map) fun b2 h16 =>
 Store h16 (⟨b2, 0, none⟩ : Addr) (.slice t168_0.p t168_0.len t168_0.cap) fun h17 =>
 LoadL h17 (⟨b2, 0, none⟩ : Addr) fun t170_0 =>
 HCalls A P f_wherrylaw09_told #[.pointer t158a, .agg #[.slice t170_0.p t170_0.len t170_0.cap]] h17 fun v5 h18 => ∃ t171 : Bool, v5 = .bool t171 ∧ (
 PIf t171 (
 LoadL h18 (⟨b2, 0, none⟩ : Addr) fun t172_0 =>
 Store h18 (⟨b, 0, none⟩ : Addr) (.slice t172_0.p t172_0.len t172_0.cap) fun h19 =>
 K7 (true, ()) h19) (
 K7 (s5.1, ()) h18))) (
 PIf (!s5.1) (
 R (.bool false) h14) (
 LoadL h14 (⟨b, 0, none⟩ : Addr) fun t176_0 =>
 New h14 (.cells #[.slice t176_0.p t176_0.len t176_0.cap] t_wherryref09_Map) fun b3 h20 =>
 K1 (s4.1, t158a, (⟨(some (⟨b3, 0, none⟩ : Addr)), 1, 1⟩ : Sl), s2.2.1, (IntKind.wrap .i64 (s.2.2.2.2.1 + (1 : Int))), ()) h20))) (false, 0, ()) h13))) fun K5 =>
 PIf (decide (s.2.2.2.2.1 < ((crashes.len : Nat) : Int))) (
 Idx crashes.p crashes.len s.2.2.2.2.1 fun a1 =>
 LoadI .i64 h11 ((a1.add (s.2.2.2.2.1.toNat * 4)).add 2) fun t135 =>
 HCalls A P f_box_Box_Fuel #[.pointer t125, .int .i64 (if (0 : Int) > t135 then 0 else t135)] h11 fun v6 h21 => v6 = .tuple #[] ∧ (
 HCalls A P f_lsm_Open #[.pointer t125] h21 fun v7 h22 => ∃ t140a : Option Addr, ∃ t140b : Int, v7 = .tuple #[.pointer t140a, .int .i64 t140b] ∧ (
 Join (fun (r1 : Bool × Unit) h23 =>
 PIf r1.1 (
 R (.bool false) h23) (
 Idx crashes.p crashes.len s.2.2.2.2.1 fun a2 =>
 LoadL h23 ((a2.add (s.2.2.2.2.1.toNat * 4)).add 3) fun t154 =>
 HCalls A P f_box_Box_Crash #[.pointer t125, .slice t154.p t154.len t154.cap] h23 fun v8 h24 => ∃ t155 : Option Addr, v8 = .pointer t155 ∧ (
 K5 (t155, ()) h24))) fun K8 =>
 PIf (t140b != (0 : Int)) (
 K8 ((t140b != (30 : Int)), ()) h22) (
 K8 (false, ()) h22)))) (
 K5 (t125, ()) h11))) fun K4 =>
 PIf (decide (s.2.2.2.2.1 < ((crashes.len : Nat) : Int))) (
 Idx crashes.p crashes.len s.2.2.2.2.1 fun a3 =>
 LoadL h9 ((a3.add (s.2.2.2.2.1.toNat * 4)).add 1) fun t122 =>
 K4 ((⟨t122.p, t122.len, t122.cap⟩ : Sl), ()) h9) (
 K4 ((⟨none, 0, 0⟩ : Sl), ()) h9)) fun K3 =>
 Loop (fun K9 (s7 : Sl × Int × Unit) h25 =>
 Join (fun (r2 : Bool × Unit) h26 =>
 PIf r2.1 (
 Join (fun (s8 : Sl × Unit) h27 =>
 K9 ((⟨s8.1.p, s8.1.len, s8.1.cap⟩ : Sl), (IntKind.wrap .i64 (s7.2.1 + (1 : Int))), ()) h27) fun K11 =>
 Idx calls.p calls.len s7.2.1 fun a4 =>
 LoadI .i64 h26 (a4.add (s7.2.1.toNat * 6)) fun t72_0 =>
 LoadL h26 ((a4.add (s7.2.1.toNat * 6)).add 1) fun t72_1 =>
 LoadS h26 ((a4.add (s7.2.1.toNat * 6)).add 2) fun t72_2 =>
 LoadS h26 ((a4.add (s7.2.1.toNat * 6)).add 3) fun t72_3 =>
 LoadI .i64 h26 ((a4.add (s7.2.1.toNat * 6)).add 4) fun t72_4 =>
 LoadL h26 ((a4.add (s7.2.1.toNat * 6)).add 5) fun t72_5 =>
 New h26 (.cells #[.int .i64 0, .slice none 0 0, .string (⟨#[]⟩ : ByteArray), .string (⟨#[]⟩ : ByteArray), .int .i64 0, .slice none 0 0] t_wherrylaw09_Call) fun b4 h28 =>
 Store h28 (⟨b4, 0, none⟩ : Addr) (.int .i64 t72_0) fun h29 =>
 Store h29 ((⟨b4, 0, none⟩ : Addr).add 1) (.slice t72_1.p t72_1.len t72_1.cap) fun h30 =>
 Store h30 ((⟨b4, 0, none⟩ : Addr).add 2) (.string t72_2) fun h31 =>
 Store h31 ((⟨b4, 0, none⟩ : Addr).add 3) (.string t72_3) fun h32 =>
 Store h32 ((⟨b4, 0, none⟩ : Addr).add 4) (.int .i64 t72_4) fun h33 =>
 Store h33 ((⟨b4, 0, none⟩ : Addr).add 5) (.slice t72_5.p t72_5.len t72_5.cap) fun h34 =>
 LoadI .i64 h34 (⟨b4, 0, none⟩ : Addr) fun t74 =>
 Join (fun (s9 : Sl × Int × Unit) h35 =>
 Join (fun (r3 : Bool × Unit) h36 =>
 PIf r3.1 (
 R (.bool false) h36) (
 PIf (s9.2.1 != (0 : Int)) (
 K3 ((⟨s9.1.p, s9.1.len, s9.1.cap⟩ : Sl), s7.2.1, ()) h36) (
 K11 ((⟨s9.1.p, s9.1.len, s9.1.cap⟩ : Sl), ()) h36))) fun K13 =>
 PIf (s9.2.1 != (0 : Int)) (
 K13 ((s9.2.1 != (30 : Int)), ()) h35) (
 K13 (false, ()) h35)) fun K12 =>
 PIf (t74 == (0 : Int)) (
 LoadL h34 ((⟨b4, 0, none⟩ : Addr).add 1) fun t78 =>
 HCalls A P f_wherryref09_Check #[.slice t78.p t78.len t78.cap] h34 fun v9 h37 => ∃ t79 : Int, v9 = .int .i64 t79 ∧ (
 PIf (t79 != (0 : Int)) (
 K11 ((⟨s7.1.p, s7.1.len, s7.1.cap⟩ : Sl), ()) h37) (
 LoadL h37 (⟨b, 0, none⟩ : Addr) fun t81_0 =>
 LoadL h37 ((⟨b4, 0, none⟩ : Addr).add 1) fun t83 =>
 HCalls A P f_wherryref09_Map_Write #[.agg #[.slice t81_0.p t81_0.len t81_0.cap], .slice t83.p t83.len t83.cap] h37 fun v10 h38 => ∃ t84_0 : Sl, v10 = .agg #[.slice t84_0.p t84_0.len t84_0.cap] ∧ (
 New h38 (.cells #[.slice none 0 0] t_wherryref09_Map) fun b5 h39 =>
 Store h39 (⟨b5, 0, none⟩ : Addr) (.slice t84_0.p t84_0.len t84_0.cap) fun h40 =>
 LoadL h40 ((⟨b4, 0, none⟩ : Addr).add 1) fun t87 =>
 HCalls A P f_lsm_DB_Write #[.pointer s.2.1, .slice t87.p t87.len t87.cap] h40 fun v11 h41 => ∃ t88 : Int, v11 = .int .i64 t88 ∧ (
 PIf (t88 == (0 : Int)) (
 LoadL h41 (⟨b5, 0, none⟩ : Addr) fun t91_0 =>
 Store h41 (⟨b, 0, none⟩ : Addr) (.slice t91_0.p t91_0.len t91_0.cap) fun h42 =>
 LoadL h42 (⟨b, 0, none⟩ : Addr) fun t92_0 =>
 New h42 (.cells #[.slice t92_0.p t92_0.len t92_0.cap] t_wherryref09_Map) fun b6 h43 =>
 K12 ((⟨(some (⟨b6, 0, none⟩ : Addr)), 1, 1⟩ : Sl), t88, ()) h43) (
 LoadL h41 (⟨b5, 0, none⟩ : Addr) fun t95_0 =>
 New h41 (.cells #[.slice t95_0.p t95_0.len t95_0.cap] t_wherryref09_Map) fun b7 h44 =>
 RunK A P (Builtin.append_ #[t_sl_wherryref09_Map, t_sl_wherryref09_Map] t_sl_wherryref09_Map #[.slice s7.1.p s7.1.len s7.1.cap, .slice (some (⟨b7, 0, none⟩ : Addr)) 1 1]) h44 fun v12 h45 => ∃ t97 : Sl, v12 = .slice t97.p t97.len t97.cap ∧ (
 K12 ((⟨t97.p, t97.len, t97.cap⟩ : Sl), t88, ()) h45))))))) (
 PIf (t74 == (3 : Int)) (
 HCalls A P f_lsm_DB_Flush #[.pointer s.2.1] h34 fun v13 h46 => ∃ t101 : Int, v13 = .int .i64 t101 ∧ (
 K12 ((⟨s7.1.p, s7.1.len, s7.1.cap⟩ : Sl), t101, ()) h46)) (
 PIf (t74 == (4 : Int)) (
 HCalls A P f_lsm_DB_Compact #[.pointer s.2.1] h34 fun v14 h47 => ∃ t105 : Int, v14 = .int .i64 t105 ∧ (
 K12 ((⟨s7.1.p, s7.1.len, s7.1.cap⟩ : Sl), t105, ()) h47)) (
 K12 ((⟨s7.1.p, s7.1.len, s7.1.cap⟩ : Sl), 0, ()) h34)))) (
 K3 ((⟨s7.1.p, s7.1.len, s7.1.cap⟩ : Sl), s7.2.1, ()) h26)) fun K10 =>
 PIf (decide (s7.2.1 < ((calls.len : Nat) : Int))) (
 K10 ((!s.2.1.isNone), ()) h25) (
 K10 (false, ()) h25)) ((⟨s.2.2.1.p, s.2.2.1.len, s.2.2.1.cap⟩ : Sl), s.2.2.2.1, ()) h8) fun K2 =>
 PIf (decide (s.2.2.2.2.1 < ((crashes.len : Nat) : Int))) (
 Idx crashes.p crashes.len s.2.2.2.2.1 fun a5 =>
 LoadI .i64 h7 (a5.add (s.2.2.2.2.1.toNat * 4)) fun t56 =>
 HCalls A P f_box_Box_Fuel #[.pointer s.1, .int .i64 (if (0 : Int) > t56 then 0 else t56)] h7 fun v15 h48 => v15 = .tuple #[] ∧ (
 K2 () h48)) (
 K2 () h7)) (
 R (.bool true) h7)) (t31, t34a, (⟨(some (⟨b1, 0, none⟩ : Addr)), 1, 1⟩ : Sl), 0, 0, ()) h6))))) fun K =>
 PIf (decide (((calls.len : Nat) : Int) > (150 : Int))) (
 K (true, ()) h1) (
 K ((decide (((crashes.len : Nat) : Int) > (8 : Int))), ()) h1)))
def a_wherrylaw09_LsmCrashes : Ann := .seq .none (.seq (.seq .none (.cond (.seq .none .none) .none)) (.seq (.seq (.reg [(30, .one .bool)] [0, 1]) (.cond (.seq .none .none) .none)) (.seq .none (.seq .none (.seq (.seq .none (.cond (.seq .none .none) .none)) (.seq .none (.seq .none (.seq .none (.seq (.seq .none (.block (.loop [(5, .one .ptr), (6, .one .ptr), (9, .one .sl), (10, .one (.int .i64)), (11, .one (.int .i64))] [0, 1, 8] (.seq (.seq .none (.cond .none .none)) (.seq (.block (.seqJ [] [0, 1, 5, 6, 8, 9, 10, 11] (.seq .none (.cond .none .none)) (.seq (.blockJ [(9, .one .sl), (10, .one (.int .i64))] [0, 1, 5, 8, 11] (.loop [(9, .one .sl), (10, .one (.int .i64))] [0, 1, 5, 6, 8, 11] (.seq (.seq (.reg [(66, .one .bool)] [0, 1, 5, 6, 8, 9, 10, 11]) (.cond .none .none)) (.seq (.blockJ [(9, .one .sl)] [0, 1, 5, 6, 8, 10, 11] (.seq .none (.seq .none (.seq (.seq .none (.blockJ [(9, .one .sl), (13, .one (.int .i64))] [0, 1, 5, 6, 8, 10, 11] (.seq .none (.cond (.seq (.seq .none (.cond .none .none)) (.seq .none (.seq .none (.seq .none (.cond (.seq .none .none) .none))))) (.seq .none (.cond .none (.seq .none (.cond .none .none)))))))) (.seq (.seq (.reg [(111, .one .bool)] [0, 1, 5, 6, 8, 9, 10, 11, 13]) (.cond (.seq .none .none) .none)) (.seq .none (.cond .none .none))))))) .none)))) (.seq .none (.seqJ [(15, .one .sl)] [0, 1, 5, 8, 9, 10, 11] (.seq .none (.cond .none .none)) (.seq .none (.seqJ [(5, .one .ptr)] [0, 1, 8, 9, 10, 11] (.seq .none (.cond (.seq .none (.seq (.seq .none (.seq (.reg [(148, .one .bool)] [0, 1, 5, 8, 9, 10, 11]) (.cond (.seq .none .none) .none))) .none)) .none)) (.seq .none (.seq (.seq .none (.cond (.seq .none .none) .none)) (.seq .none (.seq (.seq .none (.block (.loop [(18, .one .bool), (165, .one (.int .i64))] [0, 1, 5, 6, 8, 10, 11, 163, 164] (.seq .none (.seq (.cond .none .none) (.seq (.blockJ [(18, .one .bool)] [0, 1, 5, 6, 8, 10, 11, 163, 164, 165] (.seq .none (.seq .none (.cond .none .none)))) .none)))))) (.seq (.seq .none (.cond (.seq .none .none) .none)) .none)))))))))))) .none))))) (.seq .none .none))))))))))
theorem e_wherrylaw09_LsmCrashes (A : Amb) (calls : Sl) (crashes : Sl) (h : Heap) (R : Value → Heap → Prop) : F_wherrylaw09_LsmCrashes A calls crashes h R = semFun A P f_wherrylaw09_LsmCrashes a_wherrylaw09_LsmCrashes [.slice calls.p calls.len calls.cap, .slice crashes.p crashes.len crashes.cap] h R := by kernel_rfl
theorem ok_wherrylaw09_LsmCrashes {A : Amb} {calls : Sl} {crashes : Sl} {h : Heap} {R : Value → Heap → Prop} (H : F_wherrylaw09_LsmCrashes A calls crashes h R) : HCalls A P f_wherrylaw09_LsmCrashes #[.slice calls.p calls.len calls.cap, .slice crashes.p crashes.len crashes.cap] h R :=
 semFun_sound mixed (e_wherrylaw09_LsmCrashes A calls crashes h R ▸ H)
end Go.Lf.G

