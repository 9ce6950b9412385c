/-
  The formulas of functions, printed by lift.py; each with the theorem that it is what the lift reckons of the program.
-/
import Derived.Test.YtbbikicpamgbmaaGreatDoorLfN1
set_option linter.unusedVariables false
set_option maxRecDepth 100000
namespace Go.Lf.G

/-- wherry/wherrylaw04.WalTimes -/
def F_wherrylaw04_WalTimes (A : Amb) (times : Sl) (keep : Sl) (h : Heap) (R : Value → Heap → Prop) : Prop :=
  HCalls A P f_wherrylaw04_awake #[] h fun v h1 => ∃ t17 : Bool, v = .bool t17 ∧ (
  PIf (!t17) (
    R (.bool false) h1) (
    PIf (decide (((times.len : Nat) : Int) > (12 : Int))) (
      R (.bool true) h1) (
      HCalls A P f_box_New #[] h1 fun v1 h2 => ∃ t22 : Option Addr, v1 = .pointer t22 ∧ (
      Loop (fun K (s : (Option Addr) × Sl × Int × Unit) h3 =>
        PIf (decide (s.2.2.1 < ((times.len : Nat) : Int))) (
          Idx times.p times.len s.2.2.1 fun a =>
          LoadL h3 (a.add (s.2.2.1.toNat * 1)) fun t28 =>
          HCalls A P f_wal_Open #[.pointer s.1, .string (⟨#[120]⟩ : ByteArray)] h3 fun v2 h4 => ∃ t31a : Option Addr, ∃ t31b : Sl, ∃ t31c : Int, v2 = .tuple #[.pointer t31a, .slice t31b.p t31b.len t31b.cap, .int .i64 t31c] ∧ (
          Join (fun (r : Bool × Unit) h5 =>
              PIf r.1 (
                R (.bool false) h5) (
                Loop (fun K2 (s1 : Sl × Int × Unit) h6 =>
                  PIf (decide (s1.2.1 < ((t28.len : Nat) : Int))) (
                    Join (fun (s2 : Sl × Unit) h7 =>
                        K2 ((⟨s2.1.p, s2.1.len, s2.1.cap⟩ : Sl), (IntKind.wrap .i64 (s1.2.1 + (1 : Int))), ()) h7) fun K3 =>
                      Idx t28.p t28.len s1.2.1 fun a1 =>
                      LoadS h6 (a1.add (s1.2.1.toNat * 1)) fun t48 =>
                      HCalls A P f_wal_Log_Append #[.pointer t31a, .string t48] h6 fun v3 h8 => ∃ t51 : Int, v3 = .int .i64 t51 ∧ (
                      PIf (t51 == (0 : Int)) (
                        New h8 (.cells #[.string t48] t_string) fun b h9 =>
                        RunK A P (Builtin.append_ #[t_sl_string, t_sl_string] t_sl_string #[.slice s1.1.p s1.1.len s1.1.cap, .slice (some (⟨b, 0, none⟩ : Addr)) 1 1]) h9 fun v4 h10 => ∃ t56 : Sl, v4 = .slice t56.p t56.len t56.cap ∧ (
                        K3 ((⟨t56.p, t56.len, t56.cap⟩ : Sl), ()) h10)) (
                        K3 ((⟨s1.1.p, s1.1.len, s1.1.cap⟩ : Sl), ()) h8))) (
                    HCalls A P f_wal_Log_Sync #[.pointer t31a] h6 fun v5 h11 => ∃ t59 : Int, v5 = .int .i64 t59 ∧ (
                    PIf (t59 != (0 : Int)) (
                      R (.bool false) h11) (
                      HCalls A P f_wal_Log_Append #[.pointer t31a, .string (⟨#[116, 111, 114, 110, 44, 32, 97, 110, 100, 32, 108, 111, 115, 116]⟩ : ByteArray)] h11 fun v6 h12 => ∃ t62 : Int, v6 = .int .i64 t62 ∧ (
                      New h12 (.cells #[.int .i64 (if ((IntKind.wrap .i64 (((t28.len : Nat) : Int) + (1 : Int))) : Int) < 5 then (IntKind.wrap .i64 (((t28.len : Nat) : Int) + (1 : Int))) else 5)] t_int) fun b1 h13 =>
                      RunK A P (Builtin.append_ #[t_sl_int, t_sl_int] t_sl_int #[.slice (some (⟨b1, 0, none⟩ : Addr)) 1 1, .slice keep.p keep.len keep.cap]) h13 fun v7 h14 => ∃ t70 : Sl, v7 = .slice t70.p t70.len t70.cap ∧ (
                      HCalls A P f_box_Box_Crash #[.pointer s.1, .slice t70.p t70.len t70.cap] h14 fun v8 h15 => ∃ t71 : Option Addr, v8 = .pointer t71 ∧ (
                      K (t71, (⟨s1.1.p, s1.1.len, s1.1.cap⟩ : Sl), (IntKind.wrap .i64 (s.2.2.1 + (1 : Int))), ()) h15))))))) ((⟨s.2.1.p, s.2.1.len, s.2.1.cap⟩ : Sl), 0, ()) h5)) fun K1 =>
            PIf (t31c != (0 : Int)) (
              K1 (true, ()) h4) (
              HCalls A P f_wherryref02_Same #[.slice t31b.p t31b.len t31b.cap, .slice s.2.1.p s.2.1.len s.2.1.cap] h4 fun v9 h16 => ∃ t40 : Bool, v9 = .bool t40 ∧ (
              K1 ((!t40), ()) h16)))) (
          HCalls A P f_wal_Open #[.pointer s.1, .string (⟨#[120]⟩ : ByteArray)] h3 fun v10 h17 => ∃ t75a : Option Addr, ∃ t75b : Sl, ∃ t75c : Int, v10 = .tuple #[.pointer t75a, .slice t75b.p t75b.len t75b.cap, .int .i64 t75c] ∧ (
          PIf (t75c == (0 : Int)) (
            HCalls A P f_wherryref02_Same #[.slice t75b.p t75b.len t75b.cap, .slice s.2.1.p s.2.1.len s.2.1.cap] h17 fun v11 h18 => ∃ t84 : Bool, v11 = .bool t84 ∧ (
            R (.bool t84) h18)) (
            R (.bool false) h17)))) (t22, (⟨none, 0, 0⟩ : Sl), 0, ()) h2))))

def a_wherrylaw04_WalTimes : Ann := .seq .none (.seq (.seq .none (.cond (.seq .none .none) .none)) (.seq (.seq .none (.cond (.seq .none .none) .none)) (.seq .none (.seq .none (.seq (.seq .none (.block (.loop [(5, .one .ptr), (6, .one .sl), (25, .one (.int .i64))] [1, 23, 24] (.seq .none (.seq (.cond .none .none) (.seq (.block (.seq .none (.seq .none (.seq (.seq (.reg [(42, .one .bool)] [1, 5, 6, 8, 9, 23, 24, 25]) (.cond (.seq .none .none) .none)) (.seq (.seq .none (.block (.loop [(6, .one .sl), (45, .one (.int .i64))] [1, 5, 8, 9, 23, 24, 25, 43, 44] (.seq .none (.seq (.cond .none .none) (.seq (.blockJ [(6, .one .sl)] [1, 5, 8, 9, 23, 24, 25, 43, 44, 45] (.seq .none (.seq .none (.cond .none .none)))) .none)))))) (.seq (.seq .none (.cond (.seq .none .none) .none)) (.seq .none .none))))))) .none)))))) (.seq .none (.seq .none .none)))))))

theorem e_wherrylaw04_WalTimes (A : Amb) (times : Sl) (keep : Sl) (h : Heap) (R : Value → Heap → Prop) : F_wherrylaw04_WalTimes A times keep h R = semFun A P f_wherrylaw04_WalTimes a_wherrylaw04_WalTimes [.slice times.p times.len times.cap, .slice keep.p keep.len keep.cap] h R := by kernel_rfl
theorem ok_wherrylaw04_WalTimes {A : Amb} {times : Sl} {keep : Sl} {h : Heap} {R : Value → Heap → Prop} (H : F_wherrylaw04_WalTimes A times keep h R) : HCalls A P f_wherrylaw04_WalTimes #[.slice times.p times.len times.cap, .slice keep.p keep.len keep.cap] h R :=
  semFun_sound mixed (e_wherrylaw04_WalTimes A times keep h R ▸ H)

/-- wherry/wherrylaw04.WalParts -/
def F_wherrylaw04_WalParts (A : Amb) (x_0 : Sl) (x_1 : Int) (x_2 : Int) (x_3 : Sl) (h : Heap) (R : Value → Heap → Prop) : Prop :=
  New h (.cells #[.slice x_0.p x_0.len x_0.cap, .int .i64 x_1, .int .i64 x_2, .slice x_3.p x_3.len x_3.cap] t_wherrylaw04_Part) fun b h1 =>
  LoadL h1 (⟨b, 0, none⟩ : Addr) fun t20 =>
  LoadI .i64 h1 ((⟨b, 0, none⟩ : Addr).add 1) fun t22 =>
  LoadI .i64 h1 ((⟨b, 0, none⟩ : Addr).add 2) fun t24 =>
  LoadL h1 ((⟨b, 0, none⟩ : Addr).add 3) fun t26 =>
  HCalls A P f_wherrylaw04_awake #[] h1 fun v h2 => ∃ t27 : Bool, v = .bool t27 ∧ (
  PIf (!t27) (
    R (.bool false) h2) (
    HCalls A P f_box_New #[] h2 fun v1 h3 => ∃ t29 : Option Addr, v1 = .pointer t29 ∧ (
    HCalls A P f_wal_Open #[.pointer t29, .string (⟨#[120]⟩ : ByteArray)] h3 fun v2 h4 => ∃ t32a : Option Addr, ∃ t32b : Sl, ∃ t32c : Int, v2 = .tuple #[.pointer t32a, .slice t32b.p t32b.len t32b.cap, .int .i64 t32c] ∧ (
    PIf (t32c != (0 : Int)) (
      R (.bool false) h4) (
      HCalls A P f_box_Box_Fuel #[.pointer t29, .int .i64 (if (0 : Int) > t24 then 0 else t24)] h4 fun v3 h5 => v3 = .tuple #[] ∧ (
      Join (fun (s : Int × Unit) h6 =>
          HCalls A P f_box_Box_Crash #[.pointer t29, .slice t26.p t26.len t26.cap] h6 fun v4 h7 => ∃ t79 : Option Addr, v4 = .pointer t79 ∧ (
          HCalls A P f_wal_Open #[.pointer t79, .string (⟨#[120]⟩ : ByteArray)] h7 fun v5 h8 => ∃ t80a : Option Addr, ∃ t80b : Sl, ∃ t80c : Int, v5 = .tuple #[.pointer t80a, .slice t80b.p t80b.len t80b.cap, .int .i64 t80c] ∧ (
          PIf (t80c == (0 : Int)) (
            PIf (decide (((t80b.len : Nat) : Int) ≥ s.1)) (
              PIf (decide (((t80b.len : Nat) : Int) ≤ ((t20.len : Nat) : Int))) (
                Chk ((0 : Int) ≤ ((t80b.len : Nat) : Int) ∧ ((t80b.len : Nat) : Int) ≤ ((t20.cap : Nat) : Int)) <|
                HCalls A P f_wherryref02_Same #[.slice t80b.p t80b.len t80b.cap, .slice (slOff t20.p t20.cap 0 1) ((((t80b.len : Nat) : Int).toNat) - 0) (t20.cap - 0)] h8 fun v6 h9 => ∃ t105 : Bool, v6 = .bool t105 ∧ (
                R (.bool t105) h9)) (
                R (.bool false) h8)) (
              R (.bool false) h8)) (
            R (.bool false) h8)))) fun K =>
        Loop (fun K1 (s1 : Int × Int × Int × Unit) h10 =>
          PIf (decide (s1.2.2.1 < ((t20.len : Nat) : Int))) (
            Join (fun (s2 : Int × Int × Unit) h11 =>
                K1 (s2.1, s2.2.1, (IntKind.wrap .i64 (s1.2.2.1 + (1 : Int))), ()) h11) fun K2 =>
              Idx t20.p t20.len s1.2.2.1 fun a =>
              LoadS h10 (a.add (s1.2.2.1.toNat * 1)) fun t48 =>
              HCalls A P f_wal_Log_Append #[.pointer t32a, .string t48] h10 fun v7 h12 => ∃ t51 : Int, v7 = .int .i64 t51 ∧ (
              PIf (t51 != (0 : Int)) (
                K (s1.1, ()) h12) (
                Join (fun (s3 : Int × Unit) h13 =>
                    Join (fun (r : Bool × Unit) h14 =>
                        PIf r.1 (
                          K2 ((IntKind.wrap .i64 (s1.2.1 + (1 : Int))), (IntKind.wrap .i64 (s1.2.1 + (1 : Int))), ()) h14) (
                          K2 (s3.1, (IntKind.wrap .i64 (s1.2.1 + (1 : Int))), ()) h14)) fun K4 =>
                      PIf (s1.2.2.1 == t22) (
                        HCalls A P f_wal_Log_Sync #[.pointer t32a] h13 fun v8 h15 => ∃ t71 : Int, v8 = .int .i64 t71 ∧ (
                        K4 ((t71 == (0 : Int)), ()) h15)) (
                        K4 (false, ()) h13)) fun K3 =>
                  PIf ((s1.2.2.1.tmod (3 : Int)) == (2 : Int)) (
                    HCalls A P f_wal_Log_Rotate #[.pointer t32a] h12 fun v9 h16 => ∃ t60a : Int, ∃ t60b : Int, v9 = .tuple #[.int .i64 t60a, .int .i64 t60b] ∧ (
                    PIf (t60b != (0 : Int)) (
                      K (s1.1, ()) h16) (
                      K3 ((IntKind.wrap .i64 (s1.2.1 + (1 : Int))), ()) h16))) (
                    K3 (s1.1, ()) h12)))) (
            K (s1.1, ()) h10)) (0, 0, 0, ()) h5))))))

def a_wherrylaw04_WalParts : Ann := .seq .none (.seq .none (.seq (.seq .none (.cond (.seq .none .none) .none)) (.seq .none (.seq .none (.seq (.seq .none (.cond (.seq .none .none) .none)) (.seq .none (.seq .none (.seq (.seq .none (.blockJ [(11, .one (.int .i64))] [3, 6, 7] (.loop [(11, .one (.int .i64)), (12, .one (.int .i64)), (44, .one (.int .i64))] [3, 4, 6, 7, 8, 42, 43] (.seq .none (.seq (.cond .none .none) (.seq (.blockJ [(11, .one (.int .i64)), (12, .one (.int .i64))] [3, 4, 6, 7, 8, 42, 43, 44] (.seq .none (.seq (.seq .none (.cond .none .none)) (.seq .none (.seqJ [(11, .one (.int .i64))] [3, 4, 6, 7, 8, 12, 13, 42, 43, 44] (.seq .none (.cond (.seq (.seq .none (.seq .none (.cond .none .none))) .none) .none)) (.seq (.reg [(73, .one .bool)] [3, 4, 6, 7, 8, 11, 12, 42, 43, 44]) (.cond .none .none))))))) .none)))))) (.seq .none (.seq .none .none))))))))))

theorem e_wherrylaw04_WalParts (A : Amb) (x_0 : Sl) (x_1 : Int) (x_2 : Int) (x_3 : Sl) (h : Heap) (R : Value → Heap → Prop) : F_wherrylaw04_WalParts A x_0 x_1 x_2 x_3 h R = semFun A P f_wherrylaw04_WalParts a_wherrylaw04_WalParts [.agg #[.slice x_0.p x_0.len x_0.cap, .int .i64 x_1, .int .i64 x_2, .slice x_3.p x_3.len x_3.cap]] h R := by kernel_rfl
theorem ok_wherrylaw04_WalParts {A : Amb} {x_0 : Sl} {x_1 : Int} {x_2 : Int} {x_3 : Sl} {h : Heap} {R : Value → Heap → Prop} (H : F_wherrylaw04_WalParts A x_0 x_1 x_2 x_3 h R) : HCalls A P f_wherrylaw04_WalParts #[.agg #[.slice x_0.p x_0.len x_0.cap, .int .i64 x_1, .int .i64 x_2, .slice x_3.p x_3.len x_3.cap]] h R :=
  semFun_sound mixed (e_wherrylaw04_WalParts A x_0 x_1 x_2 x_3 h R ▸ H)

/-- wherry/wherrylaw04.WalDrops -/
def F_wherrylaw04_WalDrops (A : Amb) (recs : Sl) (upto : Int) (other : ByteArray) (h : Heap) (R : Value → Heap → Prop) : Prop :=
  HCalls A P f_wherrylaw04_awake #[] h fun v h1 => ∃ t24 : Bool, v = .bool t24 ∧ (
  PIf (!t24) (
    R (.bool false) h1) (
    HCalls A P f_box_New #[] h1 fun v1 h2 => ∃ t26 : Option Addr, v1 = .pointer t26 ∧ (
    HCalls A P f_wal_Open #[.pointer t26, .string (⟨#[120]⟩ : ByteArray)] h2 fun v2 h3 => ∃ t29a : Option Addr, ∃ t29b : Sl, ∃ t29c : Int, v2 = .tuple #[.pointer t29a, .slice t29b.p t29b.len t29b.cap, .int .i64 t29c] ∧ (
    Join (fun (r : Bool × Unit) h4 =>
        PIf r.1 (
          R (.bool (t29c == (0 : Int))) h4) (
          Loop (fun K1 (s : Int × Unit) h5 =>
            PIf (decide (s.1 < ((recs.len : Nat) : Int))) (
              Idx recs.p recs.len s.1 fun a =>
              LoadS h5 (a.add (s.1.toNat * 1)) fun t47 =>
              HCalls A P f_wal_Log_Append #[.pointer t29a, .string t47] h5 fun v3 h6 => ∃ t50 : Int, v3 = .int .i64 t50 ∧ (
              PIf (t50 != (0 : Int)) (
                R (.bool (decide ((t47.size : Int) > (1048576 : Int)))) h6) (
                HCalls A P f_wal_Log_Rotate #[.pointer t29a] h6 fun v4 h7 => ∃ t57a : Int, ∃ t57b : Int, v4 = .tuple #[.int .i64 t57a, .int .i64 t57b] ∧ (
                PIf (t57b != (0 : Int)) (
                  R (.bool false) h7) (
                  K1 ((IntKind.wrap .i64 (s.1 + (1 : Int))), ()) h7))))) (
              HCalls A P f_box_Box_Append #[.pointer t26, .string other, .string (⟨#[121]⟩ : ByteArray)] h5 fun v5 h8 => ∃ t65 : Int, v5 = .int .i64 t65 ∧ (
              HCalls A P f_wal_Log_Drop #[.pointer t29a, .int .i64 upto] h8 fun v6 h9 => ∃ t71 : Int, v6 = .int .i64 t71 ∧ (
              PIf (decide (upto ≥ (IntKind.wrap .i64 (((recs.len : Nat) : Int) + (1 : Int))))) (
                R (.bool (t71 == (1 : Int))) h9) (
                HCalls A P f_wal_Open #[.pointer t26, .string (⟨#[120]⟩ : ByteArray)] h9 fun v7 h10 => ∃ t80a : Option Addr, ∃ t80b : Sl, ∃ t80c : Int, v7 = .tuple #[.pointer t80a, .slice t80b.p t80b.len t80b.cap, .int .i64 t80c] ∧ (
                Join (fun (r1 : Bool × Unit) h11 =>
                    PIf r1.1 (
                      R (.bool true) h11) (
                      HCalls A P f_box_Box_Read #[.pointer t26, .string other] h11 fun v8 h12 => ∃ t97a : ByteArray, ∃ t97b : Int, v8 = .tuple #[.string t97a, .int .i64 t97b] ∧ (
                      PIf (t71 == (0 : Int)) (
                        PIf (t80c == (0 : Int)) (
                          Chk ((0 : Int) ≤ (if (0 : Int) > upto then 0 else upto) ∧ (if (0 : Int) > upto then 0 else upto) ≤ ((recs.len : Nat) : Int)) <|
                          HCalls A P f_wherryref02_Same #[.slice t80b.p t80b.len t80b.cap, .slice (slOff recs.p recs.cap ((if (0 : Int) > upto then 0 else upto).toNat) 1) (recs.len - ((if (0 : Int) > upto then 0 else upto).toNat)) (recs.cap - ((if (0 : Int) > upto then 0 else upto).toNat))] h12 fun v9 h13 => ∃ t111 : Bool, v9 = .bool t111 ∧ (
                          PIf t111 (
                            PIf (!(t65 == (0 : Int))) (
                              R (.bool true) h13) (
                              PIf (t97b == (0 : Int)) (
                                R (.bool (sEq t97a (⟨#[121]⟩ : ByteArray))) h13) (
                                R (.bool false) h13))) (
                            R (.bool false) h13))) (
                          R (.bool false) h12)) (
                        R (.bool false) h12)))) fun K2 =>
                  PIf ((other.size : Int) == (9 : Int)) (
                    Chk ((0 : Int) ≤ 0 ∧ 0 < (other.size : Int)) <|
                    K2 (((sAt other 0) == (120 : Int)), ()) h10) (
                    K2 (false, ()) h10))))))) (0, ()) h4)) fun K =>
      PIf (t29c != (0 : Int)) (
        K (true, ()) h3) (
        K ((decide (((recs.len : Nat) : Int) > (30 : Int))), ()) h3)))))

def a_wherrylaw04_WalDrops : Ann := .seq .none (.seq (.seq .none (.cond (.seq .none .none) .none)) (.seq .none (.seq .none (.seq (.seq (.reg [(39, .one .bool)] [0, 1, 2, 7, 8, 10]) (.cond (.seq .none .none) .none)) (.seq (.seq .none (.block (.loop [(44, .one (.int .i64))] [0, 1, 2, 7, 8, 42, 43] (.seq .none (.seq (.cond .none .none) (.seq (.block (.seq .none (.seq (.seq .none (.cond (.seq .none .none) .none)) (.seq .none (.seq .none (.cond (.seq .none .none) .none)))))) .none)))))) (.seq .none (.seq .none (.seq .none (.seq (.seq .none (.cond (.seq .none .none) .none)) (.seq .none (.seq .none (.seq (.seq (.reg [(93, .one .bool)] [0, 2, 7, 15, 17, 19, 20, 21]) (.cond (.seq .none .none) .none)) (.seq .none (.seq .none .none))))))))))))))

theorem e_wherrylaw04_WalDrops (A : Amb) (recs : Sl) (upto : Int) (other : ByteArray) (h : Heap) (R : Value → Heap → Prop) : F_wherrylaw04_WalDrops A recs upto other h R = semFun A P f_wherrylaw04_WalDrops a_wherrylaw04_WalDrops [.slice recs.p recs.len recs.cap, .int .i64 upto, .string other] h R := by kernel_rfl
theorem ok_wherrylaw04_WalDrops {A : Amb} {recs : Sl} {upto : Int} {other : ByteArray} {h : Heap} {R : Value → Heap → Prop} (H : F_wherrylaw04_WalDrops A recs upto other h R) : HCalls A P f_wherrylaw04_WalDrops #[.slice recs.p recs.len recs.cap, .int .i64 upto, .string other] h R :=
  semFun_sound mixed (e_wherrylaw04_WalDrops A recs upto other h R ▸ H)

/-- wherry/wherrylaw04.awake -/
def F_wherrylaw04_awake (A : Amb) (h : Heap) (R : Value → Heap → Prop) : Prop :=
  HCalls A P f_box_New #[] h fun v h1 => ∃ t11 : Option Addr, v = .pointer t11 ∧ (
  HCalls A P f_wal_Open #[.pointer t11, .string (⟨#[120]⟩ : ByteArray)] h1 fun v1 h2 => ∃ t14a : Option Addr, ∃ t14b : Sl, ∃ t14c : Int, v1 = .tuple #[.pointer t14a, .slice t14b.p t14b.len t14b.cap, .int .i64 t14c] ∧ (
  HCalls A P f_wal_Log_Append #[.pointer t14a, .string (⟨#[97]⟩ : ByteArray)] h2 fun v2 h3 => ∃ t19 : Int, v2 = .int .i64 t19 ∧ (
  HCalls A P f_wal_Log_Sync #[.pointer t14a] h3 fun v3 h4 => ∃ t21 : Int, v3 = .int .i64 t21 ∧ (
  HCalls A P f_wal_Log_Append #[.pointer t14a, .string (⟨#[98]⟩ : ByteArray)] h4 fun v4 h5 => ∃ t23 : Int, v4 = .int .i64 t23 ∧ (
  HCalls A P f_box_Box_Crash #[.pointer t11, .slice none 0 0] h5 fun v5 h6 => ∃ t26 : Option Addr, v5 = .pointer t26 ∧ (
  HCalls A P f_wal_Open #[.pointer t26, .string (⟨#[120]⟩ : ByteArray)] h6 fun v6 h7 => ∃ t27a : Option Addr, ∃ t27b : Sl, ∃ t27c : Int, v6 = .tuple #[.pointer t27a, .slice t27b.p t27b.len t27b.cap, .int .i64 t27c] ∧ (
  PIf (t14c == (0 : Int)) (
    PIf (((t14b.len : Nat) : Int) == (0 : Int)) (
      PIf (t19 == (0 : Int)) (
        PIf (t21 == (0 : Int)) (
          PIf (t23 == (0 : Int)) (
            PIf (t27c == (0 : Int)) (
              PIf (((t27b.len : Nat) : Int) == (1 : Int)) (
                Idx t27b.p t27b.len 0 fun a =>
                LoadS h7 (a.add ((0 : Int).toNat * 1)) fun t62 =>
                R (.bool (sEq t62 (⟨#[97]⟩ : ByteArray))) h7) (
                R (.bool false) h7)) (
              R (.bool false) h7)) (
            R (.bool false) h7)) (
          R (.bool false) h7)) (
        R (.bool false) h7)) (
      R (.bool false) h7)) (
    R (.bool false) h7))))))))

def a_wherrylaw04_awake : Ann := .seq .none (.seq .none (.seq .none (.seq .none (.seq .none (.seq .none (.seq .none .none))))))

theorem e_wherrylaw04_awake (A : Amb) (h : Heap) (R : Value → Heap → Prop) : F_wherrylaw04_awake A h R = semFun A P f_wherrylaw04_awake a_wherrylaw04_awake [] h R := by kernel_rfl
theorem ok_wherrylaw04_awake {A : Amb} {h : Heap} {R : Value → Heap → Prop} (H : F_wherrylaw04_awake A h R) : HCalls A P f_wherrylaw04_awake #[] h R :=
  semFun_sound mixed (e_wherrylaw04_awake A h R ▸ H)

/-- wherry/box.New -/
def F_box_New (A : Amb) (h : Heap) (R : Value → Heap → Prop) : Prop :=
  New h (.map #[] 0) fun b h1 =>
  New h1 (.cells #[.map (some b), .int .i64 (-1), .bool false] t_box_Box) fun b1 h2 =>
  R (.pointer (some (⟨b1, 0, none⟩ : Addr))) h2

def a_box_New : Ann := .seq .none (.seq .none .none)

theorem e_box_New (A : Amb) (h : Heap) (R : Value → Heap → Prop) : F_box_New A h R = semFun A P f_box_New a_box_New [] h R := by kernel_rfl
theorem ok_box_New {A : Amb} {h : Heap} {R : Value → Heap → Prop} (H : F_box_New A h R) : HCalls A P f_box_New #[] h R :=
  semFun_sound mixed (e_box_New A h R ▸ H)

/-- wherry/wal.Open -/
def F_wal_Open (A : Amb) (b : Option Addr) (name : ByteArray) (h : Heap) (R : Value → Heap → Prop) : Prop :=
  PIf (b.isNone) (
    R (.tuple #[.pointer none, .slice none 0 0, .int .i64 30]) h) (
    Join (fun (r : Bool × Unit) h1 =>
        PIf r.1 (
          R (.tuple #[.pointer none, .slice none 0 0, .int .i64 1]) h1) (
          HCalls A P f_wal_segments #[.pointer b, .string name] h1 fun v h2 => ∃ t29a : Sl, ∃ t29b : Int, v = .tuple #[.slice t29a.p t29a.len t29a.cap, .int .i64 t29b] ∧ (
          PIf (t29b != (0 : Int)) (
            R (.tuple #[.pointer none, .slice none 0 0, .int .i64 t29b]) h2) (
            Loop (fun K1 (s : Sl × Int × Int × Unit) h3 =>
              PIf (decide (s.2.2.1 < ((t29a.len : Nat) : Int))) (
                Idx t29a.p t29a.len s.2.2.1 fun a =>
                LoadI .i64 h3 (a.add (s.2.2.1.toNat * 1)) fun t40 =>
                HCalls A P f_wal_file #[.string name, .int .i64 t40] h3 fun v1 h4 => ∃ t45 : ByteArray, v1 = .string t45 ∧ (
                HCalls A P f_box_Box_Read #[.pointer b, .string t45] h4 fun v2 h5 => ∃ t46a : ByteArray, ∃ t46b : Int, v2 = .tuple #[.string t46a, .int .i64 t46b] ∧ (
                PIf (t46b != (0 : Int)) (
                  R (.tuple #[.pointer none, .slice none 0 0, .int .i64 t46b]) h5) (
                  HCalls A P f_frame_Scan #[.string t46a] h5 fun v3 h6 => ∃ t54a : Sl, ∃ t54b : Int, v3 = .tuple #[.slice t54a.p t54a.len t54a.cap, .int .i64 t54b] ∧ (
                  RunK A P (Builtin.append_ #[t_sl_string, t_sl_string] t_sl_string #[.slice s.1.p s.1.len s.1.cap, .slice t54a.p t54a.len t54a.cap]) h6 fun v4 h7 => ∃ t59 : Sl, v4 = .slice t59.p t59.len t59.cap ∧ (
                  K1 ((⟨t59.p, t59.len, t59.cap⟩ : Sl), t40, (IntKind.wrap .i64 (s.2.2.1 + (1 : Int))), ()) h7)))))) (
                PIf (s.2.1 == (99999999 : Int)) (
                  R (.tuple #[.pointer none, .slice none 0 0, .int .i64 2]) h3) (
                  New h3 (.cells #[.pointer b, .string name, .int .i64 (IntKind.wrap .i64 (s.2.1 + (1 : Int))), .bool false] t_wal_Log) fun b1 h8 =>
                  R (.tuple #[.pointer (some (⟨b1, 0, none⟩ : Addr)), .slice s.1.p s.1.len s.1.cap, .int .i64 0]) h8))) ((⟨none, 0, 0⟩ : Sl), 0, 0, ()) h2)))) fun K =>
      PIf (sEq name (⟨#[]⟩ : ByteArray)) (
        K (true, ()) h) (
        K ((decide ((name.size : Int) > (8 : Int))), ()) h))

def a_wal_Open : Ann := .seq .none (.seq (.seq .none (.cond (.seq .none .none) .none)) (.seq (.seq (.reg [(25, .one .bool)] [0, 1]) (.cond (.seq .none .none) .none)) (.seq .none (.seq (.seq .none (.cond (.seq .none .none) .none)) (.seq .none (.seq .none (.seq (.seq .none (.block (.loop [(9, .one .sl), (10, .one (.int .i64)), (37, .one (.int .i64))] [0, 1, 35, 36] (.seq .none (.seq (.cond .none .none) (.seq (.block (.seq .none (.seq .none (.seq (.seq .none (.cond (.seq .none .none) .none)) (.seq .none (.seq .none .none)))))) .none)))))) (.seq (.seq .none (.cond (.seq .none .none) .none)) (.seq .none .none)))))))))

theorem e_wal_Open (A : Amb) (b : Option Addr) (name : ByteArray) (h : Heap) (R : Value → Heap → Prop) : F_wal_Open A b name h R = semFun A P f_wal_Open a_wal_Open [.pointer b, .string name] h R := by kernel_rfl
theorem ok_wal_Open {A : Amb} {b : Option Addr} {name : ByteArray} {h : Heap} {R : Value → Heap → Prop} (H : F_wal_Open A b name h R) : HCalls A P f_wal_Open #[.pointer b, .string name] h R :=
  semFun_sound mixed (e_wal_Open A b name h R ▸ H)

/-- wherry/wherryref02.Same -/
def F_wherryref02_Same (A : Amb) (a : Sl) (b : Sl) (h : Heap) (R : Value → Heap → Prop) : Prop :=
  PIf (((a.len : Nat) : Int) != ((b.len : Nat) : Int)) (
    R (.bool false) h) (
    Loop (fun K (s : Int × Unit) h1 =>
      PIf (decide (s.1 < ((a.len : Nat) : Int))) (
        Idx a.p a.len s.1 fun a1 =>
        LoadS h1 (a1.add (s.1.toNat * 1)) fun t20 =>
        Idx b.p b.len s.1 fun a2 =>
        LoadS h1 (a2.add (s.1.toNat * 1)) fun t24 =>
        PIf (!sEq t20 t24) (
          R (.bool false) h1) (
          K ((IntKind.wrap .i64 (s.1 + (1 : Int))), ()) h1)) (
        R (.bool true) h1)) (0, ()) h)

def a_wherryref02_Same : Ann := .seq .none (.seq (.seq .none (.cond (.seq .none .none) .none)) (.seq (.seq .none (.block (.loop [(5, .one (.int .i64))] [0, 1] (.seq (.seq .none (.cond .none .none)) (.seq (.block (.seq .none (.cond (.seq .none .none) .none))) .none))))) (.seq .none .none)))

theorem e_wherryref02_Same (A : Amb) (a : Sl) (b : Sl) (h : Heap) (R : Value → Heap → Prop) : F_wherryref02_Same A a b h R = semFun A P f_wherryref02_Same a_wherryref02_Same [.slice a.p a.len a.cap, .slice b.p b.len b.cap] h R := by kernel_rfl
theorem ok_wherryref02_Same {A : Amb} {a : Sl} {b : Sl} {h : Heap} {R : Value → Heap → Prop} (H : F_wherryref02_Same A a b h R) : HCalls A P f_wherryref02_Same #[.slice a.p a.len a.cap, .slice b.p b.len b.cap] h R :=
  semFun_sound mixed (e_wherryref02_Same A a b h R ▸ H)

/-- (*wherry/wal.Log).Append -/
def F_wal_Log_Append (A : Amb) (l : Option Addr) (vrec : ByteArray) (h : Heap) (R : Value → Heap → Prop) : Prop :=
  PIf (l.isNone) (
    R (.int .i64 1) h) (
    HCalls A P f_frame_Wrap #[.string vrec] h fun v h1 => ∃ t12a : ByteArray, ∃ t12b : Int, v = .tuple #[.string t12a, .int .i64 t12b] ∧ (
    PIf (t12b != (0 : Int)) (
      R (.int .i64 t12b) h1) (
      At l fun a =>
      LoadP h1 a fun t21 =>
      At l fun a1 =>
      LoadS h1 (a1.add 1) fun t25 =>
      At l fun a2 =>
      LoadI .i64 h1 (a2.add 2) fun t29 =>
      HCalls A P f_wal_file #[.string t25, .int .i64 t29] h1 fun v1 h2 => ∃ t30 : ByteArray, v1 = .string t30 ∧ (
      (hget h2 a = some (.pointer t21)) ∧
      HCalls A P f_box_Box_Append #[.pointer t21, .string t30, .string t12a] h2 fun v2 h3 => ∃ t32 : Int, v2 = .int .i64 t32 ∧ (
      PIf (t32 != (0 : Int)) (
        R (.int .i64 t32) h3) (
        At l fun a3 =>
        Store h3 (a3.add 3) (.bool true) fun h4 =>
        R (.int .i64 0) h4))))))

def a_wal_Log_Append : Ann := .seq .none (.seq (.seq .none (.cond (.seq .none .none) .none)) (.seq .none (.seq (.seq .none (.cond (.seq .none .none) .none)) (.seq (.seq .none (.seq .none (.cond (.seq .none .none) .none))) (.seq .none (.seq .none .none))))))

theorem e_wal_Log_Append (A : Amb) (l : Option Addr) (vrec : ByteArray) (h : Heap) (R : Value → Heap → Prop) : F_wal_Log_Append A l vrec h R = semFun A P f_wal_Log_Append a_wal_Log_Append [.pointer l, .string vrec] h R := by kernel_rfl
theorem ok_wal_Log_Append {A : Amb} {l : Option Addr} {vrec : ByteArray} {h : Heap} {R : Value → Heap → Prop} (H : F_wal_Log_Append A l vrec h R) : HCalls A P f_wal_Log_Append #[.pointer l, .string vrec] h R :=
  semFun_sound mixed (e_wal_Log_Append A l vrec h R ▸ H)

/-- (*wherry/wal.Log).Sync -/
def F_wal_Log_Sync (A : Amb) (l : Option Addr) (h : Heap) (R : Value → Heap → Prop) : Prop :=
  PIf (l.isNone) (
    R (.int .i64 1) h) (
    At l fun a =>
    LoadB h (a.add 3) fun t8 =>
    PIf (!t8) (
      R (.int .i64 0) h) (
      At l fun a1 =>
      LoadP h a1 fun t13 =>
      At l fun a2 =>
      LoadS h (a2.add 1) fun t17 =>
      At l fun a3 =>
      LoadI .i64 h (a3.add 2) fun t21 =>
      HCalls A P f_wal_file #[.string t17, .int .i64 t21] h fun v h1 => ∃ t22 : ByteArray, v = .string t22 ∧ (
      (hget h1 a1 = some (.pointer t13)) ∧
      HCalls A P f_box_Box_Sync #[.pointer t13, .string t22] h1 fun v1 h2 => ∃ t23 : Int, v1 = .int .i64 t23 ∧ (
      R (.int .i64 t23) h2))))

def a_wal_Log_Sync : Ann := .seq .none (.seq (.seq .none (.cond (.seq .none .none) .none)) (.seq (.seq .none (.cond (.seq .none .none) .none)) (.seq .none .none)))

theorem e_wal_Log_Sync (A : Amb) (l : Option Addr) (h : Heap) (R : Value → Heap → Prop) : F_wal_Log_Sync A l h R = semFun A P f_wal_Log_Sync a_wal_Log_Sync [.pointer l] h R := by kernel_rfl
theorem ok_wal_Log_Sync {A : Amb} {l : Option Addr} {h : Heap} {R : Value → Heap → Prop} (H : F_wal_Log_Sync A l h R) : HCalls A P f_wal_Log_Sync #[.pointer l] h R :=
  semFun_sound mixed (e_wal_Log_Sync A l h R ▸ H)

/-- (*wherry/box.Box).Crash -/
def F_box_Box_Crash (A : Amb) (b : Option Addr) (keep : Sl) (h : Heap) (R : Value → Heap → Prop) : Prop :=
  PIf (b.isNone) (
    R (.pointer none) h) (
    HCalls A P f_box_New #[] h fun v h1 => ∃ t13 : Option Addr, v = .pointer t13 ∧ (
    At b fun a =>
    LoadM h1 a fun t17 =>
    HCalls A P f_maps_Keys_of_map_string__box_file_string__box_file #[.map t17] h1 fun v1 h2 => ∃ t18 : Value, v1 = t18 ∧ (
    HCalls A P f_slices_Sorted_of_string #[t18] h2 fun v2 h3 => ∃ t19 : Sl, v2 = .slice t19.p t19.len t19.cap ∧ (
    Loop (fun K (s : Int × Int × Unit) h4 =>
      PIf (decide (s.2.1 < ((t19.len : Nat) : Int))) (
        Join (fun (s1 : Int × Unit) h5 =>
            K (s1.1, (IntKind.wrap .i64 (s.2.1 + (1 : Int))), ()) h5) fun K1 =>
          Idx t19.p t19.len s.2.1 fun a1 =>
          LoadS h4 (a1.add (s.2.1.toNat * 1)) fun t24 =>
          At b fun a2 =>
          LoadM h4 a2 fun t28 =>
          RunK A P (Instr.lookup t_map_string_p_box_file (.map t28) (.string t24) false) h4 fun v3 h6 => ∃ t30 : Option Addr, v3 = .pointer t30 ∧ (
          At t30 fun a3 =>
          LoadS h6 a3 fun t34 =>
          Join (fun (s2 : Int × ByteArray × Unit) h7 =>
              PIf (!sEq s2.2.1 (⟨#[]⟩ : ByteArray)) (
                At t13 fun a4 =>
                LoadM h7 a4 fun t69 =>
                New h7 (.cells #[.string s2.2.1, .string (⟨#[]⟩ : ByteArray)] t_box_file) fun b1 h8 =>
                RunU A P (Instr.mapUpdate t_map_string_p_box_file (.map t69) (.string t24) (.pointer (some (⟨b1, 0, none⟩ : Addr)))) h8 fun h9 => (
                K1 (s2.1, ()) h9)) (
                K1 (s2.1, ()) h7)) fun K2 =>
            At t30 fun a5 =>
            LoadS h6 (a5.add 1) fun t38 =>
            PIf (!sEq t38 (⟨#[]⟩ : ByteArray)) (
              Join (fun (s3 : ByteArray × Unit) h10 =>
                  K2 ((IntKind.wrap .i64 (s.1 + (1 : Int))), s3.1, ()) h10) fun K3 =>
                PIf (decide (s.1 < ((keep.len : Nat) : Int))) (
                  At t30 fun a6 =>
                  LoadS h6 (a6.add 1) fun t48 =>
                  Idx keep.p keep.len s.1 fun a7 =>
                  LoadI .i64 h6 (a7.add (s.1.toNat * 1)) fun t52 =>
                  At t30 fun a8 =>
                  LoadS h6 (a8.add 1) fun t56 =>
                  Chk ((0 : Int) ≤ (if ((if ((t56.size : Int) : Int) < t52 then (t56.size : Int) else t52) : Int) > 0 then (if ((t56.size : Int) : Int) < t52 then (t56.size : Int) else t52) else 0) ∧ (if ((if ((t56.size : Int) : Int) < t52 then (t56.size : Int) else t52) : Int) > 0 then (if ((t56.size : Int) : Int) < t52 then (t56.size : Int) else t52) else 0) ≤ ((t48.size : Nat) : Int)) <|
                  Chk (((t34.size + (t48.extract 0 ((if ((if ((t56.size : Int) : Int) < t52 then (t56.size : Int) else t52) : Int) > 0 then (if ((t56.size : Int) : Int) < t52 then (t56.size : Int) else t52) else 0).toNat)).size : Nat) : Int) ≤ IntKind.i64.max) <|
                  K3 ((t34 ++ (t48.extract 0 ((if ((if ((t56.size : Int) : Int) < t52 then (t56.size : Int) else t52) : Int) > 0 then (if ((t56.size : Int) : Int) < t52 then (t56.size : Int) else t52) else 0).toNat))), ()) h6) (
                  K3 (t34, ()) h6)) (
              K2 (s.1, t34, ()) h6))) (
        At b fun a9 =>
        Store h4 (a9.add 2) (.bool true) fun h11 =>
        R (.pointer t13) h11)) (0, 0, ()) h3))))

def a_box_Box_Crash : Ann := .seq .none (.seq (.seq .none (.cond (.seq .none .none) .none)) (.seq .none (.seq .none (.seq (.seq .none (.block (.loop [(6, .one (.int .i64)), (21, .one (.int .i64))] [0, 1, 5, 19, 20] (.seq .none (.seq (.cond .none .none) (.seq (.blockJ [(6, .one (.int .i64))] [0, 1, 5, 19, 20, 21] (.seq .none (.seq .none (.seq .none (.seqJ [(6, .one (.int .i64)), (10, .one .str)] [0, 1, 5, 8, 19, 20, 21] (.seq .none (.cond (.seqJ [(10, .one .str)] [0, 1, 5, 6, 8, 19, 20, 21] (.seq .none (.cond .none .none)) .none) .none)) (.seq .none (.cond .none .none))))))) .none)))))) (.seq .none (.seq .none .none))))))

theorem e_box_Box_Crash (A : Amb) (b : Option Addr) (keep : Sl) (h : Heap) (R : Value → Heap → Prop) : F_box_Box_Crash A b keep h R = semFun A P f_box_Box_Crash a_box_Box_Crash [.pointer b, .slice keep.p keep.len keep.cap] h R := by kernel_rfl
theorem ok_box_Box_Crash {A : Amb} {b : Option Addr} {keep : Sl} {h : Heap} {R : Value → Heap → Prop} (H : F_box_Box_Crash A b keep h R) : HCalls A P f_box_Box_Crash #[.pointer b, .slice keep.p keep.len keep.cap] h R :=
  semFun_sound mixed (e_box_Box_Crash A b keep h R ▸ H)

/-- (*wherry/box.Box).Fuel -/
def F_box_Box_Fuel (A : Amb) (b : Option Addr) (n : Int) (h : Heap) (R : Value → Heap → Prop) : Prop :=
  PIf (!b.isNone) (
    At b fun a =>
    Store h (a.add 1) (.int .i64 (if ((-1) : Int) > n then (-1) else n)) fun h1 =>
    R (.tuple #[]) h1) (
    R (.tuple #[]) h)

def a_box_Box_Fuel : Ann := .seq .none (.cond .none .none)

theorem e_box_Box_Fuel (A : Amb) (b : Option Addr) (n : Int) (h : Heap) (R : Value → Heap → Prop) : F_box_Box_Fuel A b n h R = semFun A P f_box_Box_Fuel a_box_Box_Fuel [.pointer b, .int .i64 n] h R := by kernel_rfl
theorem ok_box_Box_Fuel {A : Amb} {b : Option Addr} {n : Int} {h : Heap} {R : Value → Heap → Prop} (H : F_box_Box_Fuel A b n h R) : HCalls A P f_box_Box_Fuel #[.pointer b, .int .i64 n] h R :=
  semFun_sound mixed (e_box_Box_Fuel A b n h R ▸ H)

/-- (*wherry/wal.Log).Rotate -/
def F_wal_Log_Rotate (A : Amb) (l : Option Addr) (h : Heap) (R : Value → Heap → Prop) : Prop :=
  PIf (l.isNone) (
    R (.tuple #[.int .i64 0, .int .i64 1]) h) (
    At l fun a =>
    LoadI .i64 h (a.add 2) fun t10 =>
    PIf (t10 == (99999999 : Int)) (
      R (.tuple #[.int .i64 0, .int .i64 2]) h) (
      HCalls A P f_wal_Log_Sync #[.pointer l] h fun v h1 => ∃ t13 : Int, v = .int .i64 t13 ∧ (
      PIf (t13 != (0 : Int)) (
        R (.tuple #[.int .i64 0, .int .i64 t13]) h1) (
        At l fun a1 =>
        LoadI .i64 h1 (a1.add 2) fun t20 =>
        At l fun a2 =>
        Store h1 (a2.add 2) (.int .i64 (IntKind.wrap .i64 (t20 + (1 : Int)))) fun h2 =>
        At l fun a3 =>
        Store h2 (a3.add 3) (.bool false) fun h3 =>
        At l fun a4 =>
        LoadI .i64 h3 (a4.add 2) fun t30 =>
        R (.tuple #[.int .i64 (IntKind.wrap .i64 (t30 - (1 : Int))), .int .i64 0]) h3))))

def a_wal_Log_Rotate : Ann := .seq .none (.seq (.seq .none (.cond (.seq .none .none) .none)) (.seq (.seq .none (.cond (.seq .none .none) .none)) (.seq (.seq .none (.seq .none (.cond (.seq .none .none) .none))) (.seq .none (.seq .none (.seq .none .none))))))

theorem e_wal_Log_Rotate (A : Amb) (l : Option Addr) (h : Heap) (R : Value → Heap → Prop) : F_wal_Log_Rotate A l h R = semFun A P f_wal_Log_Rotate a_wal_Log_Rotate [.pointer l] h R := by kernel_rfl
theorem ok_wal_Log_Rotate {A : Amb} {l : Option Addr} {h : Heap} {R : Value → Heap → Prop} (H : F_wal_Log_Rotate A l h R) : HCalls A P f_wal_Log_Rotate #[.pointer l] h R :=
  semFun_sound mixed (e_wal_Log_Rotate A l h R ▸ H)

/-- (*wherry/box.Box).Append -/
def F_box_Box_Append (A : Amb) (b : Option Addr) (name : ByteArray) (data : ByteArray) (h : Heap) (R : Value → Heap → Prop) : Prop :=
  HCalls A P f_box_Box_off #[.pointer b] h fun v h1 => ∃ t10 : Bool, v = .bool t10 ∧ (
  PIf t10 (
    R (.int .i64 30) h1) (
    HCalls A P f_box_wrong #[.string name] h1 fun v1 h2 => ∃ t13 : Bool, v1 = .bool t13 ∧ (
    PIf t13 (
      R (.int .i64 1) h2) (
      HCalls A P f_box_Box_burn #[.pointer b] h2 fun v2 h3 => ∃ t16 : Bool, v2 = .bool t16 ∧ (
      PIf (!t16) (
        R (.int .i64 30) h3) (
        At b fun a =>
        LoadM h3 a fun t21 =>
        RunK A P (Instr.lookup t_map_string_p_box_file (.map t21) (.string name) false) h3 fun v3 h4 => ∃ t23 : Option Addr, v3 = .pointer t23 ∧ (
        Join (fun (s : (Option Addr) × Unit) h5 =>
            At s.1 fun a1 =>
            LoadS h5 (a1.add 1) fun t37 =>
            Chk (((t37.size + data.size : Nat) : Int) ≤ IntKind.i64.max) <|
            At s.1 fun a2 =>
            Store h5 (a2.add 1) (.string (t37 ++ data)) fun h6 =>
            R (.int .i64 0) h6) fun K =>
          PIf (t23.isNone) (
            New h4 (.cells #[.string (⟨#[]⟩ : ByteArray), .string (⟨#[]⟩ : ByteArray)] t_box_file) fun b1 h7 =>
            At b fun a3 =>
            LoadM h7 a3 fun t31 =>
            RunU A P (Instr.mapUpdate t_map_string_p_box_file (.map t31) (.string name) (.pointer (some (⟨b1, 0, none⟩ : Addr)))) h7 fun h8 => (
            K ((some (⟨b1, 0, none⟩ : Addr)), ()) h8)) (
            K (t23, ()) h4))))))))

def a_box_Box_Append : Ann := .seq .none (.seq (.block (.seq .none (.cond (.seq .none .none) (.seq .none (.cond (.seq .none .none) (.seq .none (.cond (.seq .none .none) .none))))))) (.seq .none (.seqJ [(7, .one .ptr)] [2] (.seq .none (.cond (.seq .none .none) .none)) (.seq .none (.seq .none .none)))))

theorem e_box_Box_Append (A : Amb) (b : Option Addr) (name : ByteArray) (data : ByteArray) (h : Heap) (R : Value → Heap → Prop) : F_box_Box_Append A b name data h R = semFun A P f_box_Box_Append a_box_Box_Append [.pointer b, .string name, .string data] h R := by kernel_rfl
theorem ok_box_Box_Append {A : Amb} {b : Option Addr} {name : ByteArray} {data : ByteArray} {h : Heap} {R : Value → Heap → Prop} (H : F_box_Box_Append A b name data h R) : HCalls A P f_box_Box_Append #[.pointer b, .string name, .string data] h R :=
  semFun_sound mixed (e_box_Box_Append A b name data h R ▸ H)

/-- (*wherry/wal.Log).Drop -/
def F_wal_Log_Drop (A : Amb) (l : Option Addr) (upto : Int) (h : Heap) (R : Value → Heap → Prop) : Prop :=
  Join (fun (r : Bool × Unit) h1 =>
      PIf r.1 (
        R (.int .i64 1) h1) (
        At l fun a =>
        LoadP h1 a fun t24 =>
        At l fun a1 =>
        LoadS h1 (a1.add 1) fun t28 =>
        HCalls A P f_wal_segments #[.pointer t24, .string t28] h1 fun v h2 => ∃ t29a : Sl, ∃ t29b : Int, v = .tuple #[.slice t29a.p t29a.len t29a.cap, .int .i64 t29b] ∧ (
        PIf (t29b != (0 : Int)) (
          R (.int .i64 t29b) h2) (
          Loop (fun K1 (s : Int × Unit) h3 =>
            PIf (decide (s.1 < ((t29a.len : Nat) : Int))) (
              Join (fun (s1 : Unit) h4 =>
                  K1 ((IntKind.wrap .i64 (s.1 + (1 : Int))), ()) h4) fun K2 =>
                Idx t29a.p t29a.len s.1 fun a2 =>
                LoadI .i64 h3 (a2.add (s.1.toNat * 1)) fun t40 =>
                PIf (decide (t40 ≤ upto)) (
                  At l fun a3 =>
                  LoadP h3 a3 fun t47 =>
                  At l fun a4 =>
                  LoadS h3 (a4.add 1) fun t51 =>
                  HCalls A P f_wal_file #[.string t51, .int .i64 t40] h3 fun v1 h5 => ∃ t53 : ByteArray, v1 = .string t53 ∧ (
                  (hget h5 a3 = some (.pointer t47)) ∧
                  HCalls A P f_box_Box_Delete #[.pointer t47, .string t53] h5 fun v2 h6 => ∃ t54 : Int, v2 = .int .i64 t54 ∧ (
                  PIf (t54 != (0 : Int)) (
                    R (.int .i64 t54) h6) (
                    K2 () h6)))) (
                  K2 () h3)) (
              R (.int .i64 0) h3)) (0, ()) h2)))) fun K =>
    PIf (l.isNone) (
      K (true, ()) h) (
      At l fun a5 =>
      LoadI .i64 h (a5.add 2) fun t17 =>
      K ((decide (upto ≥ t17)), ()) h)

def a_wal_Log_Drop : Ann := .seq .none (.seq (.seq (.reg [(19, .one .bool)] [0, 1]) (.cond (.seq .none .none) .none)) (.seq .none (.seq (.seq .none (.cond (.seq .none .none) .none)) (.seq (.seq .none (.block (.loop [(37, .one (.int .i64))] [0, 1, 35, 36] (.seq .none (.seq (.cond .none .none) (.seq (.blockJ [] [0, 1, 35, 36, 37] (.seq .none (.seq .none (.cond (.seq .none (.seq .none (.cond (.seq .none .none) .none))) .none)))) .none)))))) (.seq .none .none)))))

theorem e_wal_Log_Drop (A : Amb) (l : Option Addr) (upto : Int) (h : Heap) (R : Value → Heap → Prop) : F_wal_Log_Drop A l upto h R = semFun A P f_wal_Log_Drop a_wal_Log_Drop [.pointer l, .int .i64 upto] h R := by kernel_rfl
theorem ok_wal_Log_Drop {A : Amb} {l : Option Addr} {upto : Int} {h : Heap} {R : Value → Heap → Prop} (H : F_wal_Log_Drop A l upto h R) : HCalls A P f_wal_Log_Drop #[.pointer l, .int .i64 upto] h R :=
  semFun_sound mixed (e_wal_Log_Drop A l upto h R ▸ H)

/-- (*wherry/box.Box).Read -/
def F_box_Box_Read (A : Amb) (b : Option Addr) (name : ByteArray) (h : Heap) (R : Value → Heap → Prop) : Prop :=
  HCalls A P f_box_Box_off #[.pointer b] h fun v h1 => ∃ t8 : Bool, v = .bool t8 ∧ (
  PIf t8 (
    R (.tuple #[.string (⟨#[]⟩ : ByteArray), .int .i64 30]) h1) (
    At b fun a =>
    LoadM h1 a fun t12 =>
    RunK A P (Instr.lookup t_map_string_p_box_file (.map t12) (.string name) false) h1 fun v1 h2 => ∃ t14 : Option Addr, v1 = .pointer t14 ∧ (
    PIf (t14.isNone) (
      R (.tuple #[.string (⟨#[]⟩ : ByteArray), .int .i64 31]) h2) (
      At t14 fun a1 =>
      LoadS h2 a1 fun t20 =>
      At t14 fun a2 =>
      LoadS h2 (a2.add 1) fun t24 =>
      Chk (((t20.size + t24.size : Nat) : Int) ≤ IntKind.i64.max) <|
      R (.tuple #[.string (t20 ++ t24), .int .i64 0]) h2))))

def a_box_Box_Read : Ann := .seq .none (.seq (.seq .none (.cond (.seq .none .none) .none)) (.seq .none (.seq (.seq .none (.cond (.seq .none .none) .none)) (.seq .none .none))))

theorem e_box_Box_Read (A : Amb) (b : Option Addr) (name : ByteArray) (h : Heap) (R : Value → Heap → Prop) : F_box_Box_Read A b name h R = semFun A P f_box_Box_Read a_box_Box_Read [.pointer b, .string name] h R := by kernel_rfl
theorem ok_box_Box_Read {A : Amb} {b : Option Addr} {name : ByteArray} {h : Heap} {R : Value → Heap → Prop} (H : F_box_Box_Read A b name h R) : HCalls A P f_box_Box_Read #[.pointer b, .string name] h R :=
  semFun_sound mixed (e_box_Box_Read A b name h R ▸ H)

/-- wherry/wal.segments -/
def F_wal_segments (A : Amb) (b : Option Addr) (name : ByteArray) (h : Heap) (R : Value → Heap → Prop) : Prop :=
  HCalls A P f_box_Box_List #[.pointer b] h fun v h1 => ∃ t14a : Sl, ∃ t14b : Int, v = .tuple #[.slice t14a.p t14a.len t14a.cap, .int .i64 t14b] ∧ (
  PIf (t14b != (0 : Int)) (
    R (.tuple #[.slice none 0 0, .int .i64 t14b]) h1) (
    Loop (fun K (s : Sl × Int × Unit) h2 =>
      PIf (decide (s.2.1 < ((t14a.len : Nat) : Int))) (
        Join (fun (s1 : Sl × Unit) h3 =>
            K ((⟨s1.1.p, s1.1.len, s1.1.cap⟩ : Sl), (IntKind.wrap .i64 (s.2.1 + (1 : Int))), ()) h3) fun K1 =>
          Idx t14a.p t14a.len s.2.1 fun a =>
          LoadS h2 (a.add (s.2.1.toNat * 1)) fun t25 =>
          HCalls A P f_wal_number #[.string name, .string t25] h2 fun v1 h4 => ∃ t28 : Int, v1 = .int .i64 t28 ∧ (
          PIf (decide (t28 > (0 : Int))) (
            New h4 (.cells #[.int .i64 t28] t_int) fun b1 h5 =>
            RunK A P (Builtin.append_ #[t_sl_int, t_sl_int] t_sl_int #[.slice s.1.p s.1.len s.1.cap, .slice (some (⟨b1, 0, none⟩ : Addr)) 1 1]) h5 fun v2 h6 => ∃ t34 : Sl, v2 = .slice t34.p t34.len t34.cap ∧ (
            K1 ((⟨t34.p, t34.len, t34.cap⟩ : Sl), ()) h6)) (
            K1 ((⟨s.1.p, s.1.len, s.1.cap⟩ : Sl), ()) h4))) (
        HCalls A P f_slices_Sort_of___int_int #[.slice s.1.p s.1.len s.1.cap] h2 fun v3 h7 => v3 = .tuple #[] ∧ (
        R (.tuple #[.slice s.1.p s.1.len s.1.cap, .int .i64 0]) h7))) ((⟨none, 0, 0⟩ : Sl), 0, ()) h1))

def a_wal_segments : Ann := .seq .none (.seq .none (.seq (.seq .none (.cond (.seq .none .none) .none)) (.seq .none (.seq (.seq .none (.block (.loop [(8, .one .sl), (22, .one (.int .i64))] [1, 20, 21] (.seq .none (.seq (.cond .none .none) (.seq (.blockJ [(8, .one .sl)] [1, 20, 21, 22] (.seq .none (.seq .none (.seq .none (.cond .none .none))))) .none)))))) (.seq .none (.seq .none .none))))))

theorem e_wal_segments (A : Amb) (b : Option Addr) (name : ByteArray) (h : Heap) (R : Value → Heap → Prop) : F_wal_segments A b name h R = semFun A P f_wal_segments a_wal_segments [.pointer b, .string name] h R := by kernel_rfl
theorem ok_wal_segments {A : Amb} {b : Option Addr} {name : ByteArray} {h : Heap} {R : Value → Heap → Prop} (H : F_wal_segments A b name h R) : HCalls A P f_wal_segments #[.pointer b, .string name] h R :=
  semFun_sound mixed (e_wal_segments A b name h R ▸ H)

/-- wherry/wal.file -/
def F_wal_file (A : Amb) (name : ByteArray) (seg : Int) (h : Heap) (R : Value → Heap → Prop) : Prop :=
  HCalls A P f_strconv_Itoa #[.int .i64 seg] h fun v h1 => ∃ t7 : ByteArray, v = .string t7 ∧ (
  HCalls A P f_strings_Repeat #[.string (⟨#[48]⟩ : ByteArray), .int .i64 (if ((IntKind.wrap .i64 ((8 : Int) - (t7.size : Int))) : Int) > 0 then (IntKind.wrap .i64 ((8 : Int) - (t7.size : Int))) else 0)] h1 fun v1 h2 => ∃ t13 : ByteArray, v1 = .string t13 ∧ (
  Chk (((name.size + t13.size : Nat) : Int) ≤ IntKind.i64.max) <|
  Chk ((((name ++ t13).size + t7.size : Nat) : Int) ≤ IntKind.i64.max) <|
  R (.string ((name ++ t13) ++ t7)) h2))

def a_wal_file : Ann := .seq .none (.seq .none (.seq .none .none))

theorem e_wal_file (A : Amb) (name : ByteArray) (seg : Int) (h : Heap) (R : Value → Heap → Prop) : F_wal_file A name seg h R = semFun A P f_wal_file a_wal_file [.string name, .int .i64 seg] h R := by kernel_rfl
theorem ok_wal_file {A : Amb} {name : ByteArray} {seg : Int} {h : Heap} {R : Value → Heap → Prop} (H : F_wal_file A name seg h R) : HCalls A P f_wal_file #[.string name, .int .i64 seg] h R :=
  semFun_sound mixed (e_wal_file A name seg h R ▸ H)

/-- wherry/frame.Scan -/
def F_frame_Scan (A : Amb) (s : ByteArray) (h : Heap) (R : Value → Heap → Prop) : Prop :=
  Loop (fun K (s1 : Sl × ByteArray × Unit) h1 =>
    HCalls A P f_frame_Next #[.string s1.2.1] h1 fun v h2 => ∃ t12a : ByteArray, ∃ t12b : ByteArray, ∃ t12c : Int, v = .tuple #[.string t12a, .string t12b, .int .i64 t12c] ∧ (
    PIf (t12c == (0 : Int)) (
      New h2 (.cells #[.string t12a] t_string) fun b h3 =>
      RunK A P (Builtin.append_ #[t_sl_string, t_sl_string] t_sl_string #[.slice s1.1.p s1.1.len s1.1.cap, .slice (some (⟨b, 0, none⟩ : Addr)) 1 1]) h3 fun v1 h4 => ∃ t21 : Sl, v1 = .slice t21.p t21.len t21.cap ∧ (
      K ((⟨t21.p, t21.len, t21.cap⟩ : Sl), t12b, ()) h4)) (
      R (.tuple #[.slice s1.1.p s1.1.len s1.1.cap, .int .i64 (IntKind.wrap .i64 ((s.size : Int) - (s1.2.1.size : Int)))]) h2))) ((⟨none, 0, 0⟩ : Sl), s, ()) h

def a_frame_Scan : Ann := .seq .none (.scope [(4, .one .sl), (5, .one .str)] [0] .none .none (.seq .none (.seq (.seq .none (.cond (.seq .none (.seq .none .none)) .none)) (.seq .none .none))))

theorem e_frame_Scan (A : Amb) (s : ByteArray) (h : Heap) (R : Value → Heap → Prop) : F_frame_Scan A s h R = semFun A P f_frame_Scan a_frame_Scan [.string s] h R := by kernel_rfl
theorem ok_frame_Scan {A : Amb} {s : ByteArray} {h : Heap} {R : Value → Heap → Prop} (H : F_frame_Scan A s h R) : HCalls A P f_frame_Scan #[.string s] h R :=
  semFun_sound mixed (e_frame_Scan A s h R ▸ H)

/-- wherry/frame.Wrap -/
def F_frame_Wrap (A : Amb) (s : ByteArray) (h : Heap) (R : Value → Heap → Prop) : Prop :=
  PIf (decide ((s.size : Int) > (1048576 : Int))) (
    R (.tuple #[.string (⟨#[]⟩ : ByteArray), .int .i64 2]) h) (
    HCalls A P f_vary_Put #[.int .u64 (IntKind.wrap .u64 (s.size : Int))] h fun v h1 => ∃ t10 : ByteArray, v = .string t10 ∧ (
    HCalls A P f_frame_Sum #[.string s] h1 fun v1 h2 => ∃ t12 : Int, v1 = .int .u32 t12 ∧ (
    HCalls A P f_frame_mark #[.int .u32 t12] h2 fun v2 h3 => ∃ t13 : ByteArray, v2 = .string t13 ∧ (
    Chk (((t10.size + t13.size : Nat) : Int) ≤ IntKind.i64.max) <|
    Chk ((((t10 ++ t13).size + s.size : Nat) : Int) ≤ IntKind.i64.max) <|
    R (.tuple #[.string ((t10 ++ t13) ++ s), .int .i64 0]) h3))))

def a_frame_Wrap : Ann := .seq .none (.seq (.seq .none (.cond (.seq .none .none) .none)) (.seq .none .none))

theorem e_frame_Wrap (A : Amb) (s : ByteArray) (h : Heap) (R : Value → Heap → Prop) : F_frame_Wrap A s h R = semFun A P f_frame_Wrap a_frame_Wrap [.string s] h R := by kernel_rfl
theorem ok_frame_Wrap {A : Amb} {s : ByteArray} {h : Heap} {R : Value → Heap → Prop} (H : F_frame_Wrap A s h R) : HCalls A P f_frame_Wrap #[.string s] h R :=
  semFun_sound mixed (e_frame_Wrap A s h R ▸ H)

/-- (*wherry/box.Box).Sync -/
def F_box_Box_Sync (A : Amb) (b : Option Addr) (name : ByteArray) (h : Heap) (R : Value → Heap → Prop) : Prop :=
  HCalls A P f_box_Box_off #[.pointer b] h fun v h1 => ∃ t8 : Bool, v = .bool t8 ∧ (
  PIf t8 (
    R (.int .i64 30) h1) (
    At b fun a =>
    LoadM h1 a fun t13 =>
    RunK A P (Instr.lookup t_map_string_p_box_file (.map t13) (.string name) false) h1 fun v1 h2 => ∃ t15 : Option Addr, v1 = .pointer t15 ∧ (
    PIf (t15.isNone) (
      R (.int .i64 31) h2) (
      HCalls A P f_box_Box_burn #[.pointer b] h2 fun v2 h3 => ∃ t19 : Bool, v2 = .bool t19 ∧ (
      PIf (!t19) (
        R (.int .i64 30) h3) (
        At b fun a1 =>
        LoadM h3 a1 fun t24 =>
        RunK A P (Instr.lookup t_map_string_p_box_file (.map t24) (.string name) false) h3 fun v3 h4 => ∃ t26 : Option Addr, v3 = .pointer t26 ∧ (
        At t26 fun a2 =>
        LoadS h4 a2 fun t32 =>
        At t26 fun a3 =>
        LoadS h4 (a3.add 1) fun t36 =>
        Chk (((t32.size + t36.size : Nat) : Int) ≤ IntKind.i64.max) <|
        At t26 fun a4 =>
        Store h4 a4 (.string (t32 ++ t36)) fun h5 =>
        At t26 fun a5 =>
        Store h5 (a5.add 1) (.string (⟨#[]⟩ : ByteArray)) fun h6 =>
        R (.int .i64 0) h6)))))))

def a_box_Box_Sync : Ann := .seq .none (.seq (.block (.seq .none (.cond (.seq .none .none) (.seq .none (.cond (.seq .none .none) (.seq .none (.cond (.seq .none .none) .none))))))) (.seq .none (.seq .none (.seq .none .none))))

theorem e_box_Box_Sync (A : Amb) (b : Option Addr) (name : ByteArray) (h : Heap) (R : Value → Heap → Prop) : F_box_Box_Sync A b name h R = semFun A P f_box_Box_Sync a_box_Box_Sync [.pointer b, .string name] h R := by kernel_rfl
theorem ok_box_Box_Sync {A : Amb} {b : Option Addr} {name : ByteArray} {h : Heap} {R : Value → Heap → Prop} (H : F_box_Box_Sync A b name h R) : HCalls A P f_box_Box_Sync #[.pointer b, .string name] h R :=
  semFun_sound mixed (e_box_Box_Sync A b name h R ▸ H)

/-- maps.Keys[map[string]*wherry/box.file,string,*wherry/box.file] -/
def F_maps_Keys_of_map_string__box_file_string__box_file (A : Amb) (m : Option Nat) (h : Heap) (R : Value → Heap → Prop) : Prop :=
  New h (.cells #[.map m] t_map_string_p_box_file) fun b h1 =>
  R ((.func (.func f_maps_Keys_of_map_string__box_file_string__box_file_1) #[] #[.pointer (some (⟨b, 0, none⟩ : Addr))])) h1

def a_maps_Keys_of_map_string__box_file_string__box_file : Ann := .seq .none (.seq .none .none)

theorem e_maps_Keys_of_map_string__box_file_string__box_file (A : Amb) (m : Option Nat) (h : Heap) (R : Value → Heap → Prop) : F_maps_Keys_of_map_string__box_file_string__box_file A m h R = semFun A P f_maps_Keys_of_map_string__box_file_string__box_file a_maps_Keys_of_map_string__box_file_string__box_file [.map m] h R := by kernel_rfl
theorem ok_maps_Keys_of_map_string__box_file_string__box_file {A : Amb} {m : Option Nat} {h : Heap} {R : Value → Heap → Prop} (H : F_maps_Keys_of_map_string__box_file_string__box_file A m h R) : HCalls A P f_maps_Keys_of_map_string__box_file_string__box_file #[.map m] h R :=
  semFun_sound mixed (e_maps_Keys_of_map_string__box_file_string__box_file A m h R ▸ H)

/-- (*wherry/box.Box).off -/
def F_box_Box_off (A : Amb) (b : Option Addr) (h : Heap) (R : Value → Heap → Prop) : Prop :=
  PIf (b.isNone) (
    R (.bool true) h) (
    At b fun a =>
    LoadB h (a.add 2) fun t9 =>
    R (.bool t9) h)

def a_box_Box_off : Ann := .seq .none (.seq .none .none)

theorem e_box_Box_off (A : Amb) (b : Option Addr) (h : Heap) (R : Value → Heap → Prop) : F_box_Box_off A b h R = semFun A P f_box_Box_off a_box_Box_off [.pointer b] h R := by kernel_rfl
theorem ok_box_Box_off {A : Amb} {b : Option Addr} {h : Heap} {R : Value → Heap → Prop} (H : F_box_Box_off A b h R) : HCalls A P f_box_Box_off #[.pointer b] h R :=
  semFun_sound mixed (e_box_Box_off A b h R ▸ H)

/-- wherry/box.wrong -/
def F_box_wrong (A : Amb) (name : ByteArray) (h : Heap) (R : Value → Heap → Prop) : Prop :=
  PIf (sEq name (⟨#[]⟩ : ByteArray)) (
    R (.bool true) h) (
    R (.bool (decide ((name.size : Int) > (32 : Int)))) h)

def a_box_wrong : Ann := .seq .none (.seq .none .none)

theorem e_box_wrong (A : Amb) (name : ByteArray) (h : Heap) (R : Value → Heap → Prop) : F_box_wrong A name h R = semFun A P f_box_wrong a_box_wrong [.string name] h R := by kernel_rfl
theorem ok_box_wrong {A : Amb} {name : ByteArray} {h : Heap} {R : Value → Heap → Prop} (H : F_box_wrong A name h R) : HCalls A P f_box_wrong #[.string name] h R :=
  semFun_sound mixed (e_box_wrong A name h R ▸ H)

/-- (*wherry/box.Box).burn -/
def F_box_Box_burn (A : Amb) (b : Option Addr) (h : Heap) (R : Value → Heap → Prop) : Prop :=
  At b fun a =>
  LoadI .i64 h (a.add 1) fun t6 =>
  PIf (t6 == (0 : Int)) (
    At b fun a1 =>
    Store h (a1.add 2) (.bool true) fun h1 =>
    R (.bool false) h1) (
    Join (fun (s : Unit) h2 =>
        R (.bool true) h2) fun K =>
      At b fun a2 =>
      LoadI .i64 h (a2.add 1) fun t14 =>
      PIf (decide (t14 > (0 : Int))) (
        At b fun a3 =>
        LoadI .i64 h (a3.add 1) fun t19 =>
        At b fun a4 =>
        Store h (a4.add 1) (.int .i64 (IntKind.wrap .i64 (t19 - (1 : Int)))) fun h3 =>
        K () h3) (
        K () h))

def a_box_Box_burn : Ann := .seq .none (.seq (.seq .none (.cond (.seq .none (.seq .none .none)) .none)) (.seqJ [] [] (.seq .none (.cond .none .none)) (.seq .none .none)))

theorem e_box_Box_burn (A : Amb) (b : Option Addr) (h : Heap) (R : Value → Heap → Prop) : F_box_Box_burn A b h R = semFun A P f_box_Box_burn a_box_Box_burn [.pointer b] h R := by kernel_rfl
theorem ok_box_Box_burn {A : Amb} {b : Option Addr} {h : Heap} {R : Value → Heap → Prop} (H : F_box_Box_burn A b h R) : HCalls A P f_box_Box_burn #[.pointer b] h R :=
  semFun_sound mixed (e_box_Box_burn A b h R ▸ H)

/-- (*wherry/box.Box).Delete -/
def F_box_Box_Delete (A : Amb) (b : Option Addr) (name : ByteArray) (h : Heap) (R : Value → Heap → Prop) : Prop :=
  HCalls A P f_box_Box_off #[.pointer b] h fun v h1 => ∃ t7 : Bool, v = .bool t7 ∧ (
  PIf t7 (
    R (.int .i64 30) h1) (
    At b fun a =>
    LoadM h1 a fun t12 =>
    RunK A P (Instr.lookup t_map_string_p_box_file (.map t12) (.string name) false) h1 fun v1 h2 => ∃ t14 : Option Addr, v1 = .pointer t14 ∧ (
    PIf (t14.isNone) (
      R (.int .i64 31) h2) (
      HCalls A P f_box_Box_burn #[.pointer b] h2 fun v2 h3 => ∃ t18 : Bool, v2 = .bool t18 ∧ (
      PIf (!t18) (
        R (.int .i64 30) h3) (
        At b fun a1 =>
        LoadM h3 a1 fun t23 =>
        RunK A P (Builtin.delete_ #[t_map_string_p_box_file, t_string] t_ #[.map t23, .string name]) h3 fun v3 h4 => v3 = .tuple #[] ∧ (
        R (.int .i64 0) h4)))))))

def a_box_Box_Delete : Ann := .seq .none (.seq (.block (.seq .none (.cond (.seq .none .none) (.seq .none (.cond (.seq .none .none) (.seq .none (.cond (.seq .none .none) .none))))))) (.seq .none (.seq .none .none)))

theorem e_box_Box_Delete (A : Amb) (b : Option Addr) (name : ByteArray) (h : Heap) (R : Value → Heap → Prop) : F_box_Box_Delete A b name h R = semFun A P f_box_Box_Delete a_box_Box_Delete [.pointer b, .string name] h R := by kernel_rfl
theorem ok_box_Box_Delete {A : Amb} {b : Option Addr} {name : ByteArray} {h : Heap} {R : Value → Heap → Prop} (H : F_box_Box_Delete A b name h R) : HCalls A P f_box_Box_Delete #[.pointer b, .string name] h R :=
  semFun_sound mixed (e_box_Box_Delete A b name h R ▸ H)

/-- (*wherry/box.Box).List -/
def F_box_Box_List (A : Amb) (b : Option Addr) (h : Heap) (R : Value → Heap → Prop) : Prop :=
  HCalls A P f_box_Box_off #[.pointer b] h fun v h1 => ∃ t5 : Bool, v = .bool t5 ∧ (
  PIf t5 (
    R (.tuple #[.slice none 0 0, .int .i64 30]) h1) (
    At b fun a =>
    LoadM h1 a fun t9 =>
    HCalls A P f_maps_Keys_of_map_string__box_file_string__box_file #[.map t9] h1 fun v1 h2 => ∃ t10 : Value, v1 = t10 ∧ (
    HCalls A P f_slices_Sorted_of_string #[t10] h2 fun v2 h3 => ∃ t11 : Sl, v2 = .slice t11.p t11.len t11.cap ∧ (
    R (.tuple #[.slice t11.p t11.len t11.cap, .int .i64 0]) h3))))

def a_box_Box_List : Ann := .seq .none (.seq (.seq .none (.cond (.seq .none .none) .none)) (.seq .none .none))

theorem e_box_Box_List (A : Amb) (b : Option Addr) (h : Heap) (R : Value → Heap → Prop) : F_box_Box_List A b h R = semFun A P f_box_Box_List a_box_Box_List [.pointer b] h R := by kernel_rfl
theorem ok_box_Box_List {A : Amb} {b : Option Addr} {h : Heap} {R : Value → Heap → Prop} (H : F_box_Box_List A b h R) : HCalls A P f_box_Box_List #[.pointer b] h R :=
  semFun_sound mixed (e_box_Box_List A b h R ▸ H)

/-- wherry/wal.number -/
def F_wal_number (A : Amb) (name : ByteArray) (s : ByteArray) (h : Heap) (R : Value → Heap → Prop) : Prop :=
  HCalls A P f_strings_CutPrefix #[.string s, .string name] h fun v h1 => ∃ t12a : ByteArray, ∃ t12b : Bool, v = .tuple #[.string t12a, .bool t12b] ∧ (
  Join (fun (r : Bool × Unit) h2 =>
      PIf r.1 (
        R (.int .i64 0) h2) (
        HCalls A P f_strconv_ParseUint #[.string t12a, .int .i64 10, .int .i64 32] h2 fun v1 h3 => ∃ t24a : Int, ∃ t24b : Value, v1 = .tuple #[.int .u64 t24a, t24b] ∧ (
        Join (fun (r1 : Bool × Unit) h4 =>
            PIf r1.1 (
              R (.int .i64 0) h4) (
              R (.int .i64 (IntKind.wrap .i64 t24a)) h4)) fun K1 =>
          Chk (isIf t24b) <|
          PIf (!(isNilI t24b)) (
            K1 (true, ()) h3) (
            HCalls A P f_wal_file #[.string name, .int .i64 (IntKind.wrap .i64 t24a)] h3 fun v2 h5 => ∃ t33 : ByteArray, v2 = .string t33 ∧ (
            K1 ((!sEq t33 s), ()) h5))))) fun K =>
    PIf (!t12b) (
      K (true, ()) h1) (
      K (((t12a.size : Int) != (8 : Int)), ()) h1))

def a_wal_number : Ann := .seq .none (.seq .none (.seq (.seq (.reg [(21, .one .bool)] [0, 1, 5]) (.cond (.seq .none .none) .none)) (.seq .none (.seq (.seq (.reg [(36, .one .bool)] [7]) (.cond (.seq .none .none) .none)) (.seq .none .none)))))

theorem e_wal_number (A : Amb) (name : ByteArray) (s : ByteArray) (h : Heap) (R : Value → Heap → Prop) : F_wal_number A name s h R = semFun A P f_wal_number a_wal_number [.string name, .string s] h R := by kernel_rfl
theorem ok_wal_number {A : Amb} {name : ByteArray} {s : ByteArray} {h : Heap} {R : Value → Heap → Prop} (H : F_wal_number A name s h R) : HCalls A P f_wal_number #[.string name, .string s] h R :=
  semFun_sound mixed (e_wal_number A name s h R ▸ H)

/-- wherry/frame.Next -/
def F_frame_Next (A : Amb) (s : ByteArray) (h : Heap) (R : Value → Heap → Prop) : Prop :=
  HCalls A P f_vary_Get #[.string s] h fun v h1 => ∃ t12a : Int, ∃ t12b : ByteArray, ∃ t12c : Bool, v = .tuple #[.int .u64 t12a, .string t12b, .bool t12c] ∧ (
  Join (fun (r : Bool × Unit) h2 =>
      PIf r.1 (
        Loop (fun K1 (s1 : Int × Unit) h3 =>
          PIf (decide (s1.1 < (s.size : Int))) (
            Chk ((0 : Int) ≤ s1.1 ∧ s1.1 < (s.size : Int)) <|
            PIf (decide ((sAt s s1.1) < (128 : Int))) (
              R (.tuple #[.string (⟨#[]⟩ : ByteArray), .string (⟨#[]⟩ : ByteArray), .int .i64 21]) h3) (
              K1 ((IntKind.wrap .i64 (s1.1 + (1 : Int))), ()) h3)) (
            R (.tuple #[.string (⟨#[]⟩ : ByteArray), .string (⟨#[]⟩ : ByteArray), .int .i64 20]) h3)) (0, ()) h2) (
        Join (fun (r1 : Bool × Unit) h4 =>
            PIf r1.1 (
              R (.tuple #[.string (⟨#[]⟩ : ByteArray), .string (⟨#[]⟩ : ByteArray), .int .i64 21]) h4) (
              Join (fun (r2 : Bool × Unit) h5 =>
                  PIf r2.1 (
                    R (.tuple #[.string (⟨#[]⟩ : ByteArray), .string (⟨#[]⟩ : ByteArray), .int .i64 20]) h5) (
                    Chk ((0 : Int) ≤ (IntKind.wrap .u64 ((4 : Int) + t12a)) ∧ (IntKind.wrap .u64 ((4 : Int) + t12a)) ≤ ((t12b.size : Nat) : Int)) <|
                    Chk ((0 : Int) ≤ 4 ∧ 4 ≤ (((IntKind.wrap .u64 ((4 : Int) + t12a)).toNat : Nat) : Int)) <|
                    Chk ((0 : Int) ≤ 4 ∧ 4 ≤ ((t12b.size : Nat) : Int)) <|
                    HCalls A P f_frame_Sum #[.string (t12b.extract ((4 : Int).toNat) ((IntKind.wrap .u64 ((4 : Int) + t12a)).toNat))] h5 fun v1 h6 => ∃ t60 : Int, v1 = .int .u32 t60 ∧ (
                    HCalls A P f_frame_mark #[.int .u32 t60] h6 fun v2 h7 => ∃ t61 : ByteArray, v2 = .string t61 ∧ (
                    PIf (!sEq (t12b.extract 0 ((4 : Int).toNat)) t61) (
                      R (.tuple #[.string (⟨#[]⟩ : ByteArray), .string (⟨#[]⟩ : ByteArray), .int .i64 21]) h7) (
                      Chk ((0 : Int) ≤ (IntKind.wrap .u64 ((4 : Int) + t12a)) ∧ (IntKind.wrap .u64 ((4 : Int) + t12a)) ≤ ((t12b.size : Nat) : Int)) <|
                      R (.tuple #[.string (t12b.extract ((4 : Int).toNat) ((IntKind.wrap .u64 ((4 : Int) + t12a)).toNat)), .string (t12b.extract ((IntKind.wrap .u64 ((4 : Int) + t12a)).toNat) t12b.size), .int .i64 0]) h7))))) fun K3 =>
                PIf (decide ((t12b.size : Int) < (4 : Int))) (
                  K3 (true, ()) h4) (
                  K3 ((decide ((IntKind.wrap .u64 (IntKind.wrap .i64 ((t12b.size : Int) - (4 : Int)))) < t12a)), ()) h4))) fun K2 =>
          PIf (!t12c) (
            K2 (true, ()) h2) (
            K2 ((decide (t12a > (1048576 : Int))), ()) h2))) fun K =>
    PIf (!t12c) (
      K ((decide ((s.size : Int) < (10 : Int))), ()) h1) (
      K (false, ()) h1))

def a_frame_Next : Ann := .seq .none (.seq .none (.seq (.block (.seq (.reg [(16, .one .bool)] [0, 5, 6, 7]) (.cond (.seq (.seq .none (.block (.loop [(26, .one (.int .i64))] [0, 25] (.seq .none (.seq (.cond .none .none) (.seq (.block (.seq .none (.seq .none (.cond (.seq .none .none) .none)))) .none)))))) (.seq .none .none)) (.seq (.reg [(34, .one .bool)] [5, 6]) (.cond (.seq .none .none) (.seq (.reg [(41, .one .bool)] [5, 6]) (.cond (.seq .none .none) .none))))))) (.seq .none (.seq (.seq .none (.cond (.seq .none .none) .none)) (.seq .none .none)))))

theorem e_frame_Next (A : Amb) (s : ByteArray) (h : Heap) (R : Value → Heap → Prop) : F_frame_Next A s h R = semFun A P f_frame_Next a_frame_Next [.string s] h R := by kernel_rfl
theorem ok_frame_Next {A : Amb} {s : ByteArray} {h : Heap} {R : Value → Heap → Prop} (H : F_frame_Next A s h R) : HCalls A P f_frame_Next #[.string s] h R :=
  semFun_sound mixed (e_frame_Next A s h R ▸ H)

/-- wherry/vary.Put -/
def F_vary_Put (A : Amb) (n : Int) (h : Heap) (R : Value → Heap → Prop) : Prop :=
  Loop (fun K (s : Int × Sl × Unit) h1 =>
    PIf (decide (s.1 ≥ (128 : Int))) (
      New h1 (.cells #[.int .u8 (bOr .u8 (IntKind.wrap .u8 s.1) (128 : Int))] t_uint8) fun b h2 =>
      RunK A P (Builtin.append_ #[t_sl_uint8, t_sl_uint8] t_sl_uint8 #[.slice s.2.1.p s.2.1.len s.2.1.cap, .slice (some (⟨b, 0, none⟩ : Addr)) 1 1]) h2 fun v h3 => ∃ t11 : Sl, v = .slice t11.p t11.len t11.cap ∧ (
      K ((s.1.fdiv ((2 : Int) ^ (7 : Nat))), (⟨t11.p, t11.len, t11.cap⟩ : Sl), ()) h3)) (
      New h1 (.cells #[.int .u8 (IntKind.wrap .u8 s.1)] t_uint8) fun b1 h4 =>
      RunK A P (Builtin.append_ #[t_sl_uint8, t_sl_uint8] t_sl_uint8 #[.slice s.2.1.p s.2.1.len s.2.1.cap, .slice (some (⟨b1, 0, none⟩ : Addr)) 1 1]) h4 fun v1 h5 => ∃ t18 : Sl, v1 = .slice t18.p t18.len t18.cap ∧ (
      RunK A P (convert t_sl_uint8 t_string (.slice t18.p t18.len t18.cap)) h5 fun v2 h6 => ∃ t19 : ByteArray, v2 = .string t19 ∧ (
      R (.string t19) h6)))) (n, (⟨none, 0, 0⟩ : Sl), ()) h

def a_vary_Put : Ann := .seq .none (.seq .none (.seq (.block (.loop [(0, .one (.int .u64)), (3, .one .sl)] [] (.seq (.seq .none (.cond .none .none)) (.block (.seq .none .none))))) (.seq .none .none)))

theorem e_vary_Put (A : Amb) (n : Int) (h : Heap) (R : Value → Heap → Prop) : F_vary_Put A n h R = semFun A P f_vary_Put a_vary_Put [.int .u64 n] h R := by kernel_rfl
theorem ok_vary_Put {A : Amb} {n : Int} {h : Heap} {R : Value → Heap → Prop} (H : F_vary_Put A n h R) : HCalls A P f_vary_Put #[.int .u64 n] h R :=
  semFun_sound mixed (e_vary_Put A n h R ▸ H)

/-- wherry/frame.mark -/
def F_frame_mark (A : Amb) (n : Int) (h : Heap) (R : Value → Heap → Prop) : Prop :=
  New h (.cells #[.int .u8 (IntKind.wrap .u8 (n.fdiv ((2 : Int) ^ (24 : Nat)))), .int .u8 (IntKind.wrap .u8 (n.fdiv ((2 : Int) ^ (16 : Nat)))), .int .u8 (IntKind.wrap .u8 (n.fdiv ((2 : Int) ^ (8 : Nat)))), .int .u8 (IntKind.wrap .u8 n)] t_uint8) fun b h1 =>
  RunK A P (convert t_sl_uint8 t_string (.slice (some (⟨b, 0, none⟩ : Addr)) 4 4)) h1 fun v h2 => ∃ t15 : ByteArray, v = .string t15 ∧ (
  R (.string t15) h2)

def a_frame_mark : Ann := .seq .none (.seq .none .none)

theorem e_frame_mark (A : Amb) (n : Int) (h : Heap) (R : Value → Heap → Prop) : F_frame_mark A n h R = semFun A P f_frame_mark a_frame_mark [.int .u32 n] h R := by kernel_rfl
theorem ok_frame_mark {A : Amb} {n : Int} {h : Heap} {R : Value → Heap → Prop} (H : F_frame_mark A n h R) : HCalls A P f_frame_mark #[.int .u32 n] h R :=
  semFun_sound mixed (e_frame_mark A n h R ▸ H)

/-- wherry/frame.Sum -/
def F_frame_Sum (A : Amb) (s : ByteArray) (h : Heap) (R : Value → Heap → Prop) : Prop :=
  Loop (fun K (s1 : Int × Int × Unit) h1 =>
    PIf (decide (s1.2.1 < (s.size : Int))) (
      Chk ((0 : Int) ≤ s1.2.1 ∧ s1.2.1 < (s.size : Int)) <|
      Loop (fun K1 (s2 : Int × Int × Unit) h2 =>
        PIf (decide (s2.2.1 < (8 : Int))) (
          K1 ((bXor .u32 (s2.1.fdiv ((2 : Int) ^ (1 : Nat))) (bAnd .u32 (3988292384 : Int) (IntKind.wrap .u32 (0 - (bAnd .u32 s2.1 (1 : Int)))))), (IntKind.wrap .i64 (s2.2.1 + (1 : Int))), ()) h2) (
          K (s2.1, (IntKind.wrap .i64 (s1.2.1 + (1 : Int))), ()) h2)) ((bXor .u32 s1.1 (IntKind.wrap .u32 (sAt s s1.2.1))), 0, ()) h1) (
      R (.int .u32 (bXor .u32 (if IntKind.signed .u32 then -1 else IntKind.max .u32) s1.1)) h1)) (4294967295, 0, ()) h

def a_frame_Sum : Ann := .seq .none (.seq .none (.seq (.seq .none (.block (.loop [(3, .one (.int .u32)), (7, .one (.int .i64))] [0, 6] (.seq .none (.seq (.cond .none .none) (.seq (.block (.seq .none (.seq .none (.seq .none (.block (.loop [(3, .one (.int .u32)), (16, .one (.int .i64))] [0, 6, 7] (.seq .none (.seq (.cond .none .none) (.seq (.block .none) .none))))))))) .none)))))) (.seq .none .none)))

theorem e_frame_Sum (A : Amb) (s : ByteArray) (h : Heap) (R : Value → Heap → Prop) : F_frame_Sum A s h R = semFun A P f_frame_Sum a_frame_Sum [.string s] h R := by kernel_rfl
theorem ok_frame_Sum {A : Amb} {s : ByteArray} {h : Heap} {R : Value → Heap → Prop} (H : F_frame_Sum A s h R) : HCalls A P f_frame_Sum #[.string s] h R :=
  semFun_sound mixed (e_frame_Sum A s h R ▸ H)

/-- maps.Keys[map[string]*wherry/box.file,string,*wherry/box.file]$1 -/
def F_maps_Keys_of_map_string__box_file_string__box_file_1 (A : Amb) (yield : Value) (c0 : Option Addr) (h : Heap) (R : Value → Heap → Prop) : Prop :=
  At c0 fun a =>
  LoadM h a fun t4 =>
  RunK A P (Instr.range t_map_string_p_box_file (.map t4)) h fun v h1 => ∃ b : Nat, v = .pointer (some (⟨b, 0, none⟩ : Addr)) ∧ (
  Loop (fun K (s : Unit) h2 =>
    RunK A P (Instr.next (.pointer (some (⟨b, 0, none⟩ : Addr))) false t_) h2 fun v1 h3 => (v1 = .tuple #[.bool false] ∧ (
      R (.tuple #[]) h3)) ∨ (∃ k u : Value, v1 = .tuple #[.bool true, k, u] ∧ (
      RunK A P (Instr.entry (.pointer (some (⟨b, 0, none⟩ : Addr)))) h3 fun v4 h6 => ∃ k2 u2 : Value, v4 = .tuple #[k2, u2] ∧ ∃ t8_0_1 : ByteArray, k2 = .string t8_0_1 ∧ (
      CallV A P yield #[.string t8_0_1] h6 fun v5 h7 => ∃ t12_1 : Bool, v5 = .bool t12_1 ∧ (
      PIf (!t12_1) (
        R (.tuple #[]) h7) (
        K () h7)))))) () h1)

def a_maps_Keys_of_map_string__box_file_string__box_file_1 : Ann := .seq .none (.block (.loop [] [0, 5] (.seq .none (.seq (.cond .none .none) (.block (.seq .none (.seq .none (.cond .none .none))))))))

theorem e_maps_Keys_of_map_string__box_file_string__box_file_1 (A : Amb) (yield : Value) (c0 : Option Addr) (h : Heap) (R : Value → Heap → Prop) : F_maps_Keys_of_map_string__box_file_string__box_file_1 A yield c0 h R = semFun A P f_maps_Keys_of_map_string__box_file_string__box_file_1 a_maps_Keys_of_map_string__box_file_string__box_file_1 [yield, .pointer c0] h R := by kernel_rfl
theorem ok_maps_Keys_of_map_string__box_file_string__box_file_1 {A : Amb} {yield : Value} {c0 : Option Addr} {h : Heap} {R : Value → Heap → Prop} (H : F_maps_Keys_of_map_string__box_file_string__box_file_1 A yield c0 h R) : HCalls A P f_maps_Keys_of_map_string__box_file_string__box_file_1 #[yield, .pointer c0] h R :=
  semFun_sound mixed (e_maps_Keys_of_map_string__box_file_string__box_file_1 A yield c0 h R ▸ H)

/-- wherry/vary.Get -/
def F_vary_Get (A : Amb) (s : ByteArray) (h : Heap) (R : Value → Heap → Prop) : Prop :=
  Loop (fun K (s1 : Int × Int × Unit) h1 =>
    PIf (decide (s1.2.1 < (if (10 : Int) < (s.size : Int) then 10 else (s.size : Int)))) (
      Chk ((0 : Int) ≤ s1.2.1 ∧ s1.2.1 < (s.size : Int)) <|
      Join (fun (r : Bool × Unit) h2 =>
          PIf r.1 (
            R (.tuple #[.int .u64 0, .string (⟨#[]⟩ : ByteArray), .bool false]) h2) (
            Chk ((0 : Int) ≤ (IntKind.wrap .i64 ((7 : Int) * s1.2.1))) <|
            PIf (decide ((sAt s s1.2.1) < (128 : Int))) (
              Chk ((0 : Int) ≤ (IntKind.wrap .i64 (s1.2.1 + (1 : Int))) ∧ (IntKind.wrap .i64 (s1.2.1 + (1 : Int))) ≤ ((s.size : Nat) : Int)) <|
              R (.tuple #[.int .u64 (bOr .u64 s1.1 (IntKind.wrap .u64 ((IntKind.wrap .u64 (bAnd .u8 (sAt s s1.2.1) (127 : Int))) * ((2 : Int) ^ (min (IntKind.wrap .i64 ((7 : Int) * s1.2.1)).toNat (IntKind.bits .u64)))))), .string (s.extract ((IntKind.wrap .i64 (s1.2.1 + (1 : Int))).toNat) s.size), .bool true]) h2) (
              K ((bOr .u64 s1.1 (IntKind.wrap .u64 ((IntKind.wrap .u64 (bAnd .u8 (sAt s s1.2.1) (127 : Int))) * ((2 : Int) ^ (min (IntKind.wrap .i64 ((7 : Int) * s1.2.1)).toNat (IntKind.bits .u64)))))), (IntKind.wrap .i64 (s1.2.1 + (1 : Int))), ()) h2))) fun K1 =>
        PIf (s1.2.1 == (9 : Int)) (
          PIf (decide ((sAt s s1.2.1) > (1 : Int))) (
            K1 (true, ()) h1) (
            PIf (decide (s1.2.1 > (0 : Int))) (
              K1 (((sAt s s1.2.1) == (0 : Int)), ()) h1) (
              K1 (false, ()) h1))) (
          PIf (decide (s1.2.1 > (0 : Int))) (
            K1 (((sAt s s1.2.1) == (0 : Int)), ()) h1) (
            K1 (false, ()) h1))) (
      R (.tuple #[.int .u64 0, .string (⟨#[]⟩ : ByteArray), .bool false]) h1)) (0, 0, ()) h

def a_vary_Get : Ann := .seq .none (.seq .none (.seq (.seq .none (.block (.loop [(5, .one (.int .u64)), (11, .one (.int .i64))] [0, 10] (.seq .none (.seq (.cond .none .none) (.seq (.block (.seq .none (.seq .none (.seq (.seq (.reg [(30, .one .bool)] [0, 5, 6, 7, 10, 11]) (.cond (.seq .none .none) .none)) (.seq .none (.seq .none (.cond (.seq .none .none) .none))))))) .none)))))) (.seq .none .none)))

theorem e_vary_Get (A : Amb) (s : ByteArray) (h : Heap) (R : Value → Heap → Prop) : F_vary_Get A s h R = semFun A P f_vary_Get a_vary_Get [.string s] h R := by kernel_rfl
theorem ok_vary_Get {A : Amb} {s : ByteArray} {h : Heap} {R : Value → Heap → Prop} (H : F_vary_Get A s h R) : HCalls A P f_vary_Get #[.string s] h R :=
  semFun_sound mixed (e_vary_Get A s h R ▸ H)

end Go.Lf.G

