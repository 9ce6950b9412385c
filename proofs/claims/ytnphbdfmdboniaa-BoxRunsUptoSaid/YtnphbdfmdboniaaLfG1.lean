/-
  The formulas of functions, printed by lift.py; each with the theorem that it is what the lift reckons of the program.
-/
import Derived.Test.YtnphbdfmdboniaaLfN1
set_option linter.unusedVariables false
set_option maxRecDepth 100000
namespace Go.Lf.G

/-- wherry/wherrylaw03.BoxParts -/
def F_wherrylaw03_BoxParts (A : Amb) (firm : Sl) (soft : Sl) (keep : Sl) (h : Heap) (R : Value → Heap → Prop) : Prop :=
  HCalls A P f_wherrylaw03_awake #[] h fun v h1 => ∃ t16 : Bool, v = .bool t16 ∧ (
  PIf (!t16) (
    R (.bool false) h1) (
    HCalls A P f_box_New #[] h1 fun v1 h2 => ∃ t18 : Option Addr, v1 = .pointer t18 ∧ (
    Loop (fun K (s : ByteArray × Int × Unit) h3 =>
      PIf (decide (s.2.1 < ((firm.len : Nat) : Int))) (
        Idx firm.p firm.len s.2.1 fun a =>
        LoadS h3 (a.add (s.2.1.toNat * 1)) fun t24 =>
        HCalls A P f_box_Box_Append #[.pointer t18, .string (⟨#[102]⟩ : ByteArray), .string t24] h3 fun v2 h4 => ∃ t27 : Int, v2 = .int .i64 t27 ∧ (
        Chk (((s.1.size + t24.size : Nat) : Int) ≤ IntKind.i64.max) <|
        K ((s.1 ++ t24), (IntKind.wrap .i64 (s.2.1 + (1 : Int))), ()) h4)) (
        Join (fun (s1 : ByteArray × Unit) h5 =>
            Loop (fun K2 (s2 : ByteArray × Int × Unit) h6 =>
              PIf (decide (s2.2.1 < ((soft.len : Nat) : Int))) (
                Idx soft.p soft.len s2.2.1 fun a1 =>
                LoadS h6 (a1.add (s2.2.1.toNat * 1)) fun t46 =>
                HCalls A P f_box_Box_Append #[.pointer t18, .string (⟨#[102]⟩ : ByteArray), .string t46] h6 fun v3 h7 => ∃ t49 : Int, v3 = .int .i64 t49 ∧ (
                Chk (((s2.1.size + t46.size : Nat) : Int) ≤ IntKind.i64.max) <|
                K2 ((s2.1 ++ t46), (IntKind.wrap .i64 (s2.2.1 + (1 : Int))), ()) h7)) (
                HCalls A P f_box_Box_Crash #[.pointer t18, .slice keep.p keep.len keep.cap] h6 fun v4 h8 => ∃ t57 : Option Addr, v4 = .pointer t57 ∧ (
                HCalls A P f_box_Box_Read #[.pointer t57, .string (⟨#[102]⟩ : ByteArray)] h8 fun v5 h9 => ∃ t58a : ByteArray, ∃ t58b : Int, v5 = .tuple #[.string t58a, .int .i64 t58b] ∧ (
                PIf (t58b != (0 : Int)) (
                  PIf (t58b == (31 : Int)) (
                    R (.bool (sEq s1.1 (⟨#[]⟩ : ByteArray))) h9) (
                    R (.bool false) h9)) (
                  PIf (decide ((t58a.size : Int) ≥ (s1.1.size : Int))) (
                    PIf (decide ((t58a.size : Int) ≤ (s2.1.size : Int))) (
                      Chk ((0 : Int) ≤ (t58a.size : Int) ∧ (t58a.size : Int) ≤ ((s2.1.size : Nat) : Int)) <|
                      R (.bool (sEq (s2.1.extract 0 ((t58a.size : Int).toNat)) t58a)) h9) (
                      R (.bool false) h9)) (
                    R (.bool false) h9)))))) (s.1, 0, ()) h5) fun K1 =>
          Join (fun (r : Bool × Unit) h10 =>
              PIf r.1 (
                K1 (s.1, ()) h10) (
                K1 ((⟨#[]⟩ : ByteArray), ()) h10)) fun K3 =>
            PIf (decide (((firm.len : Nat) : Int) > (0 : Int))) (
              HCalls A P f_box_Box_Sync #[.pointer t18, .string (⟨#[102]⟩ : ByteArray)] h3 fun v6 h11 => ∃ t37 : Int, v6 = .int .i64 t37 ∧ (
              K3 ((t37 == (0 : Int)), ()) h11)) (
              K3 (false, ()) h3))) ((⟨#[]⟩ : ByteArray), 0, ()) h2)))

def a_wherrylaw03_BoxParts : Ann := .seq .none (.seq (.seq .none (.cond (.seq .none .none) .none)) (.seq .none (.seq .none (.seq (.seq .none (.block (.loop [(8, .one .str), (21, .one (.int .i64))] [0, 1, 2, 7, 9, 19, 20] (.seq .none (.seq (.cond .none .none) (.seq (.block (.seq .none (.seq .none .none))) .none)))))) (.seqJ [(9, .one .str)] [1, 2, 7, 8] (.seq (.reg [(39, .one .bool)] [1, 2, 7, 8, 9]) (.cond .none .none)) (.seq (.seq .none (.block (.loop [(8, .one .str), (43, .one (.int .i64))] [2, 7, 9, 41, 42] (.seq .none (.seq (.cond .none .none) (.seq (.block (.seq .none (.seq .none .none))) .none)))))) (.seq .none (.seq (.seq .none (.cond (.seq .none .none) .none)) (.seq .none .none)))))))))

theorem e_wherrylaw03_BoxParts (A : Amb) (firm : Sl) (soft : Sl) (keep : Sl) (h : Heap) (R : Value → Heap → Prop) : F_wherrylaw03_BoxParts A firm soft keep h R = semFun A P f_wherrylaw03_BoxParts a_wherrylaw03_BoxParts [.slice firm.p firm.len firm.cap, .slice soft.p soft.len soft.cap, .slice keep.p keep.len keep.cap] h R := by kernel_rfl
theorem ok_wherrylaw03_BoxParts {A : Amb} {firm : Sl} {soft : Sl} {keep : Sl} {h : Heap} {R : Value → Heap → Prop} (H : F_wherrylaw03_BoxParts A firm soft keep h R) : HCalls A P f_wherrylaw03_BoxParts #[.slice firm.p firm.len firm.cap, .slice soft.p soft.len soft.cap, .slice keep.p keep.len keep.cap] h R :=
  semFun_sound mixed (e_wherrylaw03_BoxParts A firm soft keep h R ▸ H)

/-- wherry/wherrylaw03.BoxFuel -/
def F_wherrylaw03_BoxFuel (A : Amb) (fuel : Int) (tries : Int) (h : Heap) (R : Value → Heap → Prop) : Prop :=
  HCalls A P f_wherrylaw03_awake #[] h fun v h1 => ∃ t10 : Bool, v = .bool t10 ∧ (
  PIf (!t10) (
    R (.bool false) h1) (
    PIf (decide (tries > (500 : Int))) (
      R (.bool true) h1) (
      HCalls A P f_box_New #[] h1 fun v1 h2 => ∃ t14 : Option Addr, v1 = .pointer t14 ∧ (
      HCalls A P f_box_Box_Append #[.pointer t14, .string (⟨#[102]⟩ : ByteArray), .string (⟨#[120]⟩ : ByteArray)] h2 fun v2 h3 => ∃ t16 : Int, v2 = .int .i64 t16 ∧ (
      HCalls A P f_box_Box_Fuel #[.pointer t14, .int .i64 fuel] h3 fun v3 h4 => v3 = .tuple #[] ∧ (
      Loop (fun K (s : Int × Int × Unit) h5 =>
        PIf (decide (s.2.1 < tries)) (
          Join (fun (s1 : Int × Unit) h6 =>
              K (s1.1, (IntKind.wrap .i64 (s.2.1 + (1 : Int))), ()) h6) fun K1 =>
            Join (fun (s2 : Int × Unit) h7 =>
                PIf (s2.1 == (0 : Int)) (
                  K1 ((IntKind.wrap .i64 (s.1 + (1 : Int))), ()) h7) (
                  PIf (s2.1 != (30 : Int)) (
                    R (.bool false) h7) (
                    K1 (s.1, ()) h7))) fun K2 =>
              PIf ((s.2.1.tmod (2 : Int)) == (0 : Int)) (
                HCalls A P f_box_Box_Append #[.pointer t14, .string (⟨#[102]⟩ : ByteArray), .string (⟨#[121]⟩ : ByteArray)] h5 fun v4 h8 => ∃ t29 : Int, v4 = .int .i64 t29 ∧ (
                K2 (t29, ()) h8)) (
                HCalls A P f_box_Box_Sync #[.pointer t14, .string (⟨#[102]⟩ : ByteArray)] h5 fun v5 h9 => ∃ t31 : Int, v5 = .int .i64 t31 ∧ (
                K2 (t31, ()) h9))) (
          Join (fun (s3 : Int × Unit) h10 =>
              HCalls A P f_box_Box_Fuel #[.pointer t14, .int .i64 9] h10 fun v6 h11 => v6 = .tuple #[] ∧ (
              PIf (s.1 == s3.1) (
                PIf (s3.1 == (if (0 : Int) > tries then 0 else tries)) (
                  R (.bool true) h11) (
                  HCalls A P f_box_Box_Append #[.pointer t14, .string (⟨#[102]⟩ : ByteArray), .string (⟨#[122]⟩ : ByteArray)] h11 fun v7 h12 => ∃ t57 : Int, v7 = .int .i64 t57 ∧ (
                  R (.bool (t57 == (30 : Int))) h12))) (
                R (.bool false) h11))) fun K3 =>
            PIf (decide (fuel ≥ (0 : Int))) (
              K3 ((if (fuel : Int) < (if (0 : Int) > tries then 0 else tries) then fuel else (if (0 : Int) > tries then 0 else tries)), ()) h5) (
              K3 ((if (0 : Int) > tries then 0 else tries), ()) h5))) (0, 0, ()) h4))))))

def a_wherrylaw03_BoxFuel : Ann := .seq .none (.seq (.seq .none (.cond (.seq .none .none) .none)) (.seq (.seq .none (.cond (.seq .none .none) .none)) (.seq .none (.seq .none (.seq .none (.seq .none (.seq (.seq .none (.block (.loop [(6, .one (.int .i64)), (7, .one (.int .i64))] [0, 1, 5] (.seq (.seq .none (.cond .none .none)) (.seq (.blockJ [(6, .one (.int .i64))] [0, 1, 5, 7] (.seq .none (.seqJ [(8, .one (.int .i64))] [0, 1, 5, 6, 7] (.seq .none (.cond .none .none)) (.seq .none (.cond .none (.seq .none (.cond (.seq .none .none) .none))))))) .none))))) (.seq .none (.seqJ [(9, .one (.int .i64))] [1, 5, 6] (.seq .none (.cond .none .none)) (.seq .none (.seq .none .none)))))))))))

theorem e_wherrylaw03_BoxFuel (A : Amb) (fuel : Int) (tries : Int) (h : Heap) (R : Value → Heap → Prop) : F_wherrylaw03_BoxFuel A fuel tries h R = semFun A P f_wherrylaw03_BoxFuel a_wherrylaw03_BoxFuel [.int .i64 fuel, .int .i64 tries] h R := by kernel_rfl
theorem ok_wherrylaw03_BoxFuel {A : Amb} {fuel : Int} {tries : Int} {h : Heap} {R : Value → Heap → Prop} (H : F_wherrylaw03_BoxFuel A fuel tries h R) : HCalls A P f_wherrylaw03_BoxFuel #[.int .i64 fuel, .int .i64 tries] h R :=
  semFun_sound mixed (e_wherrylaw03_BoxFuel A fuel tries h R ▸ H)

/-- wherry/wherrylaw03.BoxOrder -/
def F_wherrylaw03_BoxOrder (A : Amb) (parts : Sl) (every : Int) (h : Heap) (R : Value → Heap → Prop) : Prop :=
  HCalls A P f_wherrylaw03_awake #[] h fun v h1 => ∃ t13 : Bool, v = .bool t13 ∧ (
  PIf (!t13) (
    R (.bool false) h1) (
    HCalls A P f_box_New #[] h1 fun v1 h2 => ∃ t15 : Option Addr, v1 = .pointer t15 ∧ (
    Loop (fun K (s : ByteArray × Int × Unit) h3 =>
      PIf (decide (s.2.1 < ((parts.len : Nat) : Int))) (
        Idx parts.p parts.len s.2.1 fun a =>
        LoadS h3 (a.add (s.2.1.toNat * 1)) fun t22 =>
        HCalls A P f_box_Box_Append #[.pointer t15, .string (⟨#[102]⟩ : ByteArray), .string t22] h3 fun v2 h4 => ∃ t25 : Int, v2 = .int .i64 t25 ∧ (
        PIf (t25 != (0 : Int)) (
          R (.bool false) h4) (
          Chk (((s.1.size + t22.size : Nat) : Int) ≤ IntKind.i64.max) <|
          Join (fun (r : Bool × Unit) h5 =>
              PIf r.1 (
                R (.bool false) h5) (
                Loop (fun K2 (s1 : Int × Unit) h6 =>
                  PIf (decide (s1.1 < (2 : Int))) (
                    HCalls A P f_box_Box_List #[.pointer t15] h6 fun v3 h7 => ∃ t47a : Sl, ∃ t47b : Int, v3 = .tuple #[.slice t47a.p t47a.len t47a.cap, .int .i64 t47b] ∧ (
                    HCalls A P f_box_Box_Read #[.pointer t15, .string (⟨#[102]⟩ : ByteArray)] h7 fun v4 h8 => ∃ t52a : ByteArray, ∃ t52b : Int, v4 = .tuple #[.string t52a, .int .i64 t52b] ∧ (
                    Join (fun (r1 : Bool × Unit) h9 =>
                        PIf r1.1 (
                          R (.bool false) h9) (
                          K2 ((IntKind.wrap .i64 (s1.1 + (1 : Int))), ()) h9)) fun K3 =>
                      PIf (t47b != (0 : Int)) (
                        K3 (true, ()) h8) (
                        PIf (t52b != (0 : Int)) (
                          K3 (true, ()) h8) (
                          PIf (((t47a.len : Nat) : Int) != (1 : Int)) (
                            K3 (true, ()) h8) (
                            Idx t47a.p t47a.len 0 fun a1 =>
                            LoadS h8 (a1.add ((0 : Int).toNat * 1)) fun t69 =>
                            PIf (!sEq t69 (⟨#[102]⟩ : ByteArray)) (
                              K3 (true, ()) h8) (
                              K3 ((!sEq t52a (s.1 ++ t22)), ()) h8))))))) (
                    K ((s.1 ++ t22), (IntKind.wrap .i64 (s.2.1 + (1 : Int))), ()) h6)) (0, ()) h5)) fun K1 =>
            PIf (decide (every > (0 : Int))) (
              Chk (every ≠ 0) <|
              PIf ((s.2.1.tmod every) == (0 : Int)) (
                HCalls A P f_box_Box_Sync #[.pointer t15, .string (⟨#[102]⟩ : ByteArray)] h4 fun v5 h10 => ∃ t40 : Int, v5 = .int .i64 t40 ∧ (
                K1 ((t40 != (0 : Int)), ()) h10)) (
                K1 (false, ()) h4)) (
              K1 (false, ()) h4)))) (
        R (.bool true) h3)) ((⟨#[]⟩ : ByteArray), 0, ()) h2)))

def a_wherrylaw03_BoxOrder : Ann := .seq .none (.seq (.seq .none (.cond (.seq .none .none) .none)) (.seq .none (.seq .none (.seq (.seq .none (.block (.loop [(6, .one .str), (18, .one (.int .i64))] [1, 5, 16, 17] (.seq .none (.seq (.cond .none .none) (.seq (.block (.seq .none (.seq (.seq .none (.cond (.seq .none .none) .none)) (.seq .none (.seq (.seq (.reg [(42, .one .bool)] [1, 5, 6, 16, 17, 18]) (.cond (.seq .none .none) .none)) (.seq .none (.block (.loop [(43, .one (.int .i64))] [1, 5, 6, 16, 17, 18] (.seq .none (.seq (.cond .none .none) (.seq (.block (.seq .none (.seq .none (.seq (.reg [(76, .one .bool)] [1, 5, 6, 16, 17, 18, 43]) (.cond (.seq .none .none) .none))))) .none))))))))))) .none)))))) (.seq .none .none)))))

theorem e_wherrylaw03_BoxOrder (A : Amb) (parts : Sl) (every : Int) (h : Heap) (R : Value → Heap → Prop) : F_wherrylaw03_BoxOrder A parts every h R = semFun A P f_wherrylaw03_BoxOrder a_wherrylaw03_BoxOrder [.slice parts.p parts.len parts.cap, .int .i64 every] h R := by kernel_rfl
theorem ok_wherrylaw03_BoxOrder {A : Amb} {parts : Sl} {every : Int} {h : Heap} {R : Value → Heap → Prop} (H : F_wherrylaw03_BoxOrder A parts every h R) : HCalls A P f_wherrylaw03_BoxOrder #[.slice parts.p parts.len parts.cap, .int .i64 every] h R :=
  semFun_sound mixed (e_wherrylaw03_BoxOrder A parts every h R ▸ H)

/-- wherry/wherrylaw03.BoxApart -/
def F_wherrylaw03_BoxApart (A : Amb) (calls : Sl) (mine : ByteArray) (h : Heap) (R : Value → Heap → Prop) : Prop :=
  HCalls A P f_wherrylaw03_awake #[] h fun v h1 => ∃ t10 : Bool, v = .bool t10 ∧ (
  PIf (!t10) (
    R (.bool false) h1) (
    HCalls A P f_box_New #[] h1 fun v1 h2 => ∃ t12 : Option Addr, v1 = .pointer t12 ∧ (
    HCalls A P f_box_Box_Append #[.pointer t12, .string (⟨#[109, 105, 110, 101]⟩ : ByteArray), .string mine] h2 fun v2 h3 => ∃ t15 : Int, v2 = .int .i64 t15 ∧ (
    PIf (t15 != (0 : Int)) (
      R (.bool false) h3) (
      Loop (fun K (s : Int × Unit) h4 =>
        PIf (decide (s.1 < ((calls.len : Nat) : Int))) (
          Join (fun (s1 : Unit) h5 =>
              K ((IntKind.wrap .i64 (s.1 + (1 : Int))), ()) h5) fun K1 =>
            Idx calls.p calls.len s.1 fun a =>
            LoadI .i64 h4 (a.add (s.1.toNat * 5)) fun t22_0 =>
            LoadS h4 ((a.add (s.1.toNat * 5)).add 1) fun t22_1 =>
            LoadS h4 ((a.add (s.1.toNat * 5)).add 2) fun t22_2 =>
            LoadI .i64 h4 ((a.add (s.1.toNat * 5)).add 3) fun t22_3 =>
            LoadL h4 ((a.add (s.1.toNat * 5)).add 4) fun t22_4 =>
            New h4 (.cells #[.int .i64 0, .string (⟨#[]⟩ : ByteArray), .string (⟨#[]⟩ : ByteArray), .int .i64 0, .slice none 0 0] t_wherrylaw03_Call) fun b h6 =>
            Store h6 (⟨b, 0, none⟩ : Addr) (.int .i64 t22_0) fun h7 =>
            Store h7 ((⟨b, 0, none⟩ : Addr).add 1) (.string t22_1) fun h8 =>
            Store h8 ((⟨b, 0, none⟩ : Addr).add 2) (.string t22_2) fun h9 =>
            Store h9 ((⟨b, 0, none⟩ : Addr).add 3) (.int .i64 t22_3) fun h10 =>
            Store h10 ((⟨b, 0, none⟩ : Addr).add 4) (.slice t22_4.p t22_4.len t22_4.cap) fun h11 =>
            LoadS h11 ((⟨b, 0, none⟩ : Addr).add 1) fun t24 =>
            PIf (sEq t24 (⟨#[109, 105, 110, 101]⟩ : ByteArray)) (
              K1 () h11) (
              LoadI .i64 h11 (⟨b, 0, none⟩ : Addr) fun t27 =>
              Join (fun (s2 : Unit) h12 =>
                  HCalls A P f_box_Box_Read #[.pointer t12, .string (⟨#[109, 105, 110, 101]⟩ : ByteArray)] h12 fun v3 h13 => ∃ t50a : ByteArray, ∃ t50b : Int, v3 = .tuple #[.string t50a, .int .i64 t50b] ∧ (
                  Join (fun (r : Bool × Unit) h14 =>
                      PIf r.1 (
                        R (.bool false) h14) (
                        K1 () h14)) fun K3 =>
                    PIf (t50b != (0 : Int)) (
                      K3 (true, ()) h13) (
                      K3 ((!sEq t50a mine), ()) h13))) fun K2 =>
                PIf (t27 == (0 : Int)) (
                  LoadS h11 ((⟨b, 0, none⟩ : Addr).add 1) fun t32 =>
                  LoadS h11 ((⟨b, 0, none⟩ : Addr).add 2) fun t34 =>
                  HCalls A P f_box_Box_Append #[.pointer t12, .string t32, .string t34] h11 fun v4 h15 => ∃ t35 : Int, v4 = .int .i64 t35 ∧ (
                  K2 () h15)) (
                  PIf (t27 == (1 : Int)) (
                    LoadS h11 ((⟨b, 0, none⟩ : Addr).add 1) fun t40 =>
                    HCalls A P f_box_Box_Sync #[.pointer t12, .string t40] h11 fun v5 h16 => ∃ t41 : Int, v5 = .int .i64 t41 ∧ (
                    K2 () h16)) (
                    PIf (t27 == (2 : Int)) (
                      LoadS h11 ((⟨b, 0, none⟩ : Addr).add 1) fun t46 =>
                      HCalls A P f_box_Box_Delete #[.pointer t12, .string t46] h11 fun v6 h17 => ∃ t47 : Int, v6 = .int .i64 t47 ∧ (
                      K2 () h17)) (
                      K2 () h11))))) (
          R (.bool true) h4)) (0, ()) h3)))))

def a_wherrylaw03_BoxApart : Ann := .seq .none (.seq (.seq .none (.cond (.seq .none .none) .none)) (.seq .none (.seq (.seq .none (.cond (.seq .none .none) .none)) (.seq (.seq .none (.block (.loop [(19, .one (.int .i64))] [1, 5, 17, 18] (.seq .none (.seq (.cond .none .none) (.seq (.blockJ [] [1, 5, 17, 18, 19] (.seq .none (.seq (.seq .none (.cond .none .none)) (.seq (.seq .none (.blockJ [] [1, 5, 17, 18, 19] (.seq .none (.cond .none (.seq .none (.cond .none (.seq .none (.cond .none .none)))))))) (.seq .none (.seq (.reg [(59, .one .bool)] [1, 5, 17, 18, 19]) (.cond (.seq .none .none) .none))))))) .none)))))) (.seq .none .none)))))

theorem e_wherrylaw03_BoxApart (A : Amb) (calls : Sl) (mine : ByteArray) (h : Heap) (R : Value → Heap → Prop) : F_wherrylaw03_BoxApart A calls mine h R = semFun A P f_wherrylaw03_BoxApart a_wherrylaw03_BoxApart [.slice calls.p calls.len calls.cap, .string mine] h R := by kernel_rfl
theorem ok_wherrylaw03_BoxApart {A : Amb} {calls : Sl} {mine : ByteArray} {h : Heap} {R : Value → Heap → Prop} (H : F_wherrylaw03_BoxApart A calls mine h R) : HCalls A P f_wherrylaw03_BoxApart #[.slice calls.p calls.len calls.cap, .string mine] h R :=
  semFun_sound mixed (e_wherrylaw03_BoxApart A calls mine h R ▸ H)

/-- wherry/wherrylaw03.BoxNone -/
def F_wherrylaw03_BoxNone (A : Amb) (name : ByteArray) (keep : Sl) (h : Heap) (R : Value → Heap → Prop) : Prop :=
  HCalls A P f_wherrylaw03_awake #[] h fun v h1 => ∃ t10 : Bool, v = .bool t10 ∧ (
  PIf (!t10) (
    R (.bool false) h1) (
    HCalls A P f_box_Box_Fuel #[.pointer none, .int .i64 3] h1 fun v1 h2 => v1 = .tuple #[] ∧ (
    HCalls A P f_box_Box_Read #[.pointer none, .string name] h2 fun v2 h3 => ∃ t17a : ByteArray, ∃ t17b : Int, v2 = .tuple #[.string t17a, .int .i64 t17b] ∧ (
    HCalls A P f_box_Box_List #[.pointer none] h3 fun v3 h4 => ∃ t22a : Sl, ∃ t22b : Int, v3 = .tuple #[.slice t22a.p t22a.len t22a.cap, .int .i64 t22b] ∧ (
    PIf (t17b == (30 : Int)) (
      PIf (t22b == (30 : Int)) (
        PIf (((t22a.len : Nat) : Int) == (0 : Int)) (
          HCalls A P f_box_Box_Append #[.pointer none, .string name, .string (⟨#[]⟩ : ByteArray)] h4 fun v4 h5 => ∃ t39 : Int, v4 = .int .i64 t39 ∧ (
          PIf (t39 == (30 : Int)) (
            HCalls A P f_box_Box_Sync #[.pointer none, .string name] h5 fun v5 h6 => ∃ t45 : Int, v5 = .int .i64 t45 ∧ (
            PIf (t45 == (30 : Int)) (
              HCalls A P f_box_Box_Delete #[.pointer none, .string name] h6 fun v6 h7 => ∃ t51 : Int, v6 = .int .i64 t51 ∧ (
              PIf (t51 == (30 : Int)) (
                HCalls A P f_box_Box_Crash #[.pointer none, .slice keep.p keep.len keep.cap] h7 fun v7 h8 => ∃ t57 : Option Addr, v7 = .pointer t57 ∧ (
                R (.bool (t57.isNone)) h8)) (
                R (.bool false) h7))) (
              R (.bool false) h6))) (
            R (.bool false) h5))) (
          R (.bool false) h4)) (
        R (.bool false) h4)) (
      R (.bool false) h4))))))

def a_wherrylaw03_BoxNone : Ann := .seq .none (.seq (.seq .none (.cond (.seq .none .none) .none)) (.seq .none (.seq .none (.seq .none (.seq .none (.seq .none .none))))))

theorem e_wherrylaw03_BoxNone (A : Amb) (name : ByteArray) (keep : Sl) (h : Heap) (R : Value → Heap → Prop) : F_wherrylaw03_BoxNone A name keep h R = semFun A P f_wherrylaw03_BoxNone a_wherrylaw03_BoxNone [.string name, .slice keep.p keep.len keep.cap] h R := by kernel_rfl
theorem ok_wherrylaw03_BoxNone {A : Amb} {name : ByteArray} {keep : Sl} {h : Heap} {R : Value → Heap → Prop} (H : F_wherrylaw03_BoxNone A name keep h R) : HCalls A P f_wherrylaw03_BoxNone #[.string name, .slice keep.p keep.len keep.cap] h R :=
  semFun_sound mixed (e_wherrylaw03_BoxNone A name keep h R ▸ H)

/-- wherry/wherrylaw03.BoxRuns -/
def F_wherrylaw03_BoxRuns (A : Amb) (calls : Sl) (h : Heap) (R : Value → Heap → Prop) : Prop :=
  HCalls A P f_wherrylaw03_awake #[] h fun v h1 => ∃ t12 : Bool, v = .bool t12 ∧ (
  PIf (!t12) (
    R (.bool false) h1) (
    HCalls A P f_box_New #[] h1 fun v1 h2 => ∃ t14 : Option Addr, v1 = .pointer t14 ∧ (
    HCalls A P f_wherryref03_New #[] h2 fun v2 h3 => ∃ t15 : Option Addr, v2 = .pointer t15 ∧ (
    Loop (fun K (s : (Option Addr) × (Option Addr) × Int × Unit) h4 =>
      PIf (decide (s.2.2.1 < ((calls.len : Nat) : Int))) (
        Idx calls.p calls.len s.2.2.1 fun a =>
        LoadI .i64 h4 (a.add (s.2.2.1.toNat * 5)) fun t21_0 =>
        LoadS h4 ((a.add (s.2.2.1.toNat * 5)).add 1) fun t21_1 =>
        LoadS h4 ((a.add (s.2.2.1.toNat * 5)).add 2) fun t21_2 =>
        LoadI .i64 h4 ((a.add (s.2.2.1.toNat * 5)).add 3) fun t21_3 =>
        LoadL h4 ((a.add (s.2.2.1.toNat * 5)).add 4) fun t21_4 =>
        New h4 (.cells #[.int .i64 0, .string (⟨#[]⟩ : ByteArray), .string (⟨#[]⟩ : ByteArray), .int .i64 0, .slice none 0 0] t_wherrylaw03_Call) fun b h5 =>
        Store h5 (⟨b, 0, none⟩ : Addr) (.int .i64 t21_0) fun h6 =>
        Store h6 ((⟨b, 0, none⟩ : Addr).add 1) (.string t21_1) fun h7 =>
        Store h7 ((⟨b, 0, none⟩ : Addr).add 2) (.string t21_2) fun h8 =>
        Store h8 ((⟨b, 0, none⟩ : Addr).add 3) (.int .i64 t21_3) fun h9 =>
        Store h9 ((⟨b, 0, none⟩ : Addr).add 4) (.slice t21_4.p t21_4.len t21_4.cap) fun h10 =>
        LoadI .i64 h10 (⟨b, 0, none⟩ : Addr) fun t23 =>
        Join (fun (s1 : (Option Addr) × (Option Addr) × Unit) h11 =>
            K (s1.1, s1.2.1, (IntKind.wrap .i64 (s.2.2.1 + (1 : Int))), ()) h11) fun K1 =>
          PIf (t23 == (0 : Int)) (
            LoadS h10 ((⟨b, 0, none⟩ : Addr).add 1) fun t56 =>
            LoadS h10 ((⟨b, 0, none⟩ : Addr).add 2) fun t58 =>
            HCalls A P f_box_Box_Append #[.pointer s.1, .string t56, .string t58] h10 fun v3 h12 => ∃ t59 : Int, v3 = .int .i64 t59 ∧ (
            LoadS h12 ((⟨b, 0, none⟩ : Addr).add 1) fun t62 =>
            And (hget h10 ((⟨b, 0, none⟩ : Addr).add 1) = some (.string t62)) <|
            LoadS h12 ((⟨b, 0, none⟩ : Addr).add 2) fun t64 =>
            And (hget h10 ((⟨b, 0, none⟩ : Addr).add 2) = some (.string t64)) <|
            HCalls A P f_wherryref03_Box_Append #[.pointer s.2.1, .string t62, .string t64] h12 fun v4 h13 => ∃ t65 : Int, v4 = .int .i64 t65 ∧ (
            PIf (t59 != t65) (
              R (.bool false) h13) (
              K1 (s.1, s.2.1, ()) h13)))) (
            PIf (t23 == (1 : Int)) (
              LoadS h10 ((⟨b, 0, none⟩ : Addr).add 1) fun t71 =>
              HCalls A P f_box_Box_Sync #[.pointer s.1, .string t71] h10 fun v5 h14 => ∃ t72 : Int, v5 = .int .i64 t72 ∧ (
              LoadS h14 ((⟨b, 0, none⟩ : Addr).add 1) fun t75 =>
              And (hget h10 ((⟨b, 0, none⟩ : Addr).add 1) = some (.string t75)) <|
              HCalls A P f_wherryref03_Box_Sync #[.pointer s.2.1, .string t75] h14 fun v6 h15 => ∃ t76 : Int, v6 = .int .i64 t76 ∧ (
              PIf (t72 != t76) (
                R (.bool false) h15) (
                K1 (s.1, s.2.1, ()) h15)))) (
              PIf (t23 == (2 : Int)) (
                LoadS h10 ((⟨b, 0, none⟩ : Addr).add 1) fun t82 =>
                HCalls A P f_box_Box_Delete #[.pointer s.1, .string t82] h10 fun v7 h16 => ∃ t83 : Int, v7 = .int .i64 t83 ∧ (
                LoadS h16 ((⟨b, 0, none⟩ : Addr).add 1) fun t86 =>
                And (hget h10 ((⟨b, 0, none⟩ : Addr).add 1) = some (.string t86)) <|
                HCalls A P f_wherryref03_Box_Delete #[.pointer s.2.1, .string t86] h16 fun v8 h17 => ∃ t87 : Int, v8 = .int .i64 t87 ∧ (
                PIf (t83 != t87) (
                  R (.bool false) h17) (
                  K1 (s.1, s.2.1, ()) h17)))) (
                PIf (t23 == (3 : Int)) (
                  LoadI .i64 h10 ((⟨b, 0, none⟩ : Addr).add 3) fun t93 =>
                  HCalls A P f_box_Box_Fuel #[.pointer s.1, .int .i64 t93] h10 fun v9 h18 => v9 = .tuple #[] ∧ (
                  LoadI .i64 h18 ((⟨b, 0, none⟩ : Addr).add 3) fun t97 =>
                  At s.2.1 fun a1 =>
                  Store h18 (a1.add 1) (.int .i64 (if ((-1) : Int) > t97 then (-1) else t97)) fun h19 =>
                  K1 (s.1, s.2.1, ()) h19)) (
                  PIf (t23 == (4 : Int)) (
                    LoadL h10 ((⟨b, 0, none⟩ : Addr).add 4) fun t106 =>
                    HCalls A P f_box_Box_Crash #[.pointer s.1, .slice t106.p t106.len t106.cap] h10 fun v10 h20 => ∃ t107 : Option Addr, v10 = .pointer t107 ∧ (
                    LoadL h20 ((⟨b, 0, none⟩ : Addr).add 4) fun t110 =>
                    And (hget h10 ((⟨b, 0, none⟩ : Addr).add 4) = some (.slice t110.p t110.len t110.cap)) <|
                    HCalls A P f_wherryref03_Box_Crash #[.pointer s.2.1, .slice t110.p t110.len t110.cap] h20 fun v11 h21 => ∃ t111 : Option Addr, v11 = .pointer t111 ∧ (
                    Join (fun (r : Bool × Unit) h22 =>
                        PIf r.1 (
                          R (.bool false) h22) (
                          K1 (t107, t111, ()) h22)) fun K2 =>
                      HCalls A P f_box_Box_Append #[.pointer s.1, .string (⟨#[120]⟩ : ByteArray), .string (⟨#[]⟩ : ByteArray)] h21 fun v12 h23 => ∃ t113 : Int, v12 = .int .i64 t113 ∧ (
                      PIf (t113 != (30 : Int)) (
                        K2 (true, ()) h23) (
                        HCalls A P f_box_Box_Sync #[.pointer s.1, .string (⟨#[120]⟩ : ByteArray)] h23 fun v13 h24 => ∃ t117 : Int, v13 = .int .i64 t117 ∧ (
                        PIf (t117 != (30 : Int)) (
                          K2 (true, ()) h24) (
                          HCalls A P f_box_Box_Delete #[.pointer s.1, .string (⟨#[120]⟩ : ByteArray)] h24 fun v14 h25 => ∃ t122 : Int, v14 = .int .i64 t122 ∧ (
                          K2 ((t122 != (30 : Int)), ()) h25)))))))) (
                    LoadS h10 ((⟨b, 0, none⟩ : Addr).add 1) fun t27 =>
                    HCalls A P f_box_Box_Read #[.pointer s.1, .string t27] h10 fun v15 h26 => ∃ t28a : ByteArray, ∃ t28b : Int, v15 = .tuple #[.string t28a, .int .i64 t28b] ∧ (
                    LoadS h26 ((⟨b, 0, none⟩ : Addr).add 1) fun t34 =>
                    HCalls A P f_wherryref03_Box_Read #[.pointer s.2.1, .string t34] h26 fun v16 h27 => ∃ t35a : ByteArray, ∃ t35b : Int, v16 = .tuple #[.string t35a, .int .i64 t35b] ∧ (
                    Join (fun (r1 : Bool × Unit) h28 =>
                        PIf r1.1 (
                          R (.bool false) h28) (
                          K1 (s.1, s.2.1, ()) h28)) fun K3 =>
                      PIf (!sEq t28a t35a) (
                        K3 (true, ()) h27) (
                        PIf (t28b != t35b) (
                          K3 (true, ()) h27) (
                          HCalls A P f_wherrylaw03_same #[.pointer s.1, .pointer s.2.1] h27 fun v17 h29 => ∃ t49 : Bool, v17 = .bool t49 ∧ (
                          K3 ((!t49), ()) h29))))))))))) (
        HCalls A P f_wherrylaw03_same #[.pointer s.1, .pointer s.2.1] h4 fun v18 h30 => ∃ t128 : Bool, v18 = .bool t128 ∧ (
        R (.bool t128) h30))) (t14, t15, 0, ()) h3))))

def a_wherrylaw03_BoxRuns : Ann := .seq .none (.seq (.seq .none (.cond (.seq .none .none) .none)) (.seq .none (.seq (.seq .none (.block (.loop [(3, .one .ptr), (4, .one .ptr), (18, .one (.int .i64))] [16, 17] (.seq .none (.seq (.cond .none .none) (.seq (.block (.seq .none (.seq .none (.blockJ [(3, .one .ptr), (4, .one .ptr)] [16, 17, 18] (.seq .none (.cond (.seq .none (.cond (.seq .none .none) .none)) (.seq .none (.cond (.seq .none (.cond (.seq .none .none) .none)) (.seq .none (.cond (.seq .none (.cond (.seq .none .none) .none)) (.seq .none (.cond (.seq .none .none) (.seq .none (.cond (.seq .none (.seq .none (.seq (.reg [(124, .one .bool)] [3, 4, 16, 17, 18]) (.cond (.seq .none .none) .none)))) (.seq .none (.seq .none (.seq (.reg [(51, .one .bool)] [3, 4, 16, 17, 18]) (.cond (.seq .none .none) .none)))))))))))))))))) .none)))))) (.seq .none .none))))

theorem e_wherrylaw03_BoxRuns (A : Amb) (calls : Sl) (h : Heap) (R : Value → Heap → Prop) : F_wherrylaw03_BoxRuns A calls h R = semFun A P f_wherrylaw03_BoxRuns a_wherrylaw03_BoxRuns [.slice calls.p calls.len calls.cap] h R := by kernel_rfl
theorem ok_wherrylaw03_BoxRuns {A : Amb} {calls : Sl} {h : Heap} {R : Value → Heap → Prop} (H : F_wherrylaw03_BoxRuns A calls h R) : HCalls A P f_wherrylaw03_BoxRuns #[.slice calls.p calls.len calls.cap] h R :=
  semFun_sound mixed (e_wherrylaw03_BoxRuns A calls h R ▸ H)

/-- wherry/wherrylaw03.awake -/
def F_wherrylaw03_awake (A : Amb) (h : Heap) (R : Value → Heap → Prop) : Prop :=
  HCalls A P f_box_New #[] h fun v h1 => ∃ t9 : Option Addr, v = .pointer t9 ∧ (
  HCalls A P f_box_Box_Append #[.pointer t9, .string (⟨#[102]⟩ : ByteArray), .string (⟨#[97, 98]⟩ : ByteArray)] h1 fun v1 h2 => ∃ t11 : Int, v1 = .int .i64 t11 ∧ (
  HCalls A P f_box_Box_Sync #[.pointer t9, .string (⟨#[102]⟩ : ByteArray)] h2 fun v2 h3 => ∃ t13 : Int, v2 = .int .i64 t13 ∧ (
  HCalls A P f_box_Box_Append #[.pointer t9, .string (⟨#[102]⟩ : ByteArray), .string (⟨#[99, 100]⟩ : ByteArray)] h3 fun v3 h4 => ∃ t15 : Int, v3 = .int .i64 t15 ∧ (
  New h4 (.cells #[.int .i64 1] t_int) fun b h5 =>
  HCalls A P f_box_Box_Crash #[.pointer t9, .slice (some (⟨b, 0, none⟩ : Addr)) 1 1] h5 fun v4 h6 => ∃ t19 : Option Addr, v4 = .pointer t19 ∧ (
  HCalls A P f_box_Box_Read #[.pointer t19, .string (⟨#[102]⟩ : ByteArray)] h6 fun v5 h7 => ∃ t20a : ByteArray, ∃ t20b : Int, v5 = .tuple #[.string t20a, .int .i64 t20b] ∧ (
  HCalls A P f_box_Box_Read #[.pointer t9, .string (⟨#[102]⟩ : ByteArray)] h7 fun v6 h8 => ∃ t25a : ByteArray, ∃ t25b : Int, v6 = .tuple #[.string t25a, .int .i64 t25b] ∧ (
  PIf (t11 == (0 : Int)) (
    PIf (t13 == (0 : Int)) (
      PIf (t15 == (0 : Int)) (
        PIf (t20b == (0 : Int)) (
          PIf (sEq t20a (⟨#[97, 98, 99]⟩ : ByteArray)) (
            R (.bool (t25b == (30 : Int))) h8) (
            R (.bool false) h8)) (
          R (.bool false) h8)) (
        R (.bool false) h8)) (
      R (.bool false) h8)) (
    R (.bool false) h8))))))))

def a_wherrylaw03_awake : Ann := .seq .none (.seq .none (.seq .none (.seq .none (.seq .none (.seq .none (.seq .none .none))))))

theorem e_wherrylaw03_awake (A : Amb) (h : Heap) (R : Value → Heap → Prop) : F_wherrylaw03_awake A h R = semFun A P f_wherrylaw03_awake a_wherrylaw03_awake [] h R := by kernel_rfl
theorem ok_wherrylaw03_awake {A : Amb} {h : Heap} {R : Value → Heap → Prop} (H : F_wherrylaw03_awake A h R) : HCalls A P f_wherrylaw03_awake #[] h R :=
  semFun_sound mixed (e_wherrylaw03_awake A h R ▸ H)

/-- wherry/box.New -/
def F_box_New (A : Amb) (h : Heap) (R : Value → Heap → Prop) : Prop :=
  New h (.map #[] 0) fun b h1 =>
  New h1 (.cells #[.map (some b), .int .i64 (-1), .bool false] t_box_Box) fun b1 h2 =>
  R (.pointer (some (⟨b1, 0, none⟩ : Addr))) h2

def a_box_New : Ann := .seq .none (.seq .none .none)

theorem e_box_New (A : Amb) (h : Heap) (R : Value → Heap → Prop) : F_box_New A h R = semFun A P f_box_New a_box_New [] h R := by kernel_rfl
theorem ok_box_New {A : Amb} {h : Heap} {R : Value → Heap → Prop} (H : F_box_New A h R) : HCalls A P f_box_New #[] h R :=
  semFun_sound mixed (e_box_New A h R ▸ H)

/-- (*wherry/box.Box).Append -/
def F_box_Box_Append (A : Amb) (b : Option Addr) (name : ByteArray) (data : ByteArray) (h : Heap) (R : Value → Heap → Prop) : Prop :=
  HCalls A P f_box_Box_off #[.pointer b] h fun v h1 => ∃ t10 : Bool, v = .bool t10 ∧ (
  PIf t10 (
    R (.int .i64 30) h1) (
    HCalls A P f_box_wrong #[.string name] h1 fun v1 h2 => ∃ t13 : Bool, v1 = .bool t13 ∧ (
    PIf t13 (
      R (.int .i64 1) h2) (
      HCalls A P f_box_Box_burn #[.pointer b] h2 fun v2 h3 => ∃ t16 : Bool, v2 = .bool t16 ∧ (
      PIf (!t16) (
        R (.int .i64 30) h3) (
        At b fun a =>
        LoadM h3 a fun t21 =>
        RunK A P (Instr.lookup t_map_string_p_box_file (.map t21) (.string name) false) h3 fun v3 h4 => ∃ t23 : Option Addr, v3 = .pointer t23 ∧ (
        Join (fun (s : (Option Addr) × Unit) h5 =>
            At s.1 fun a1 =>
            LoadS h5 (a1.add 1) fun t37 =>
            Chk (((t37.size + data.size : Nat) : Int) ≤ IntKind.i64.max) <|
            At s.1 fun a2 =>
            Store h5 (a2.add 1) (.string (t37 ++ data)) fun h6 =>
            R (.int .i64 0) h6) fun K =>
          PIf (t23.isNone) (
            New h4 (.cells #[.string (⟨#[]⟩ : ByteArray), .string (⟨#[]⟩ : ByteArray)] t_box_file) fun b1 h7 =>
            At b fun a3 =>
            LoadM h7 a3 fun t31 =>
            RunU A P (Instr.mapUpdate t_map_string_p_box_file (.map t31) (.string name) (.pointer (some (⟨b1, 0, none⟩ : Addr)))) h7 fun h8 => (
            K ((some (⟨b1, 0, none⟩ : Addr)), ()) h8)) (
            K (t23, ()) h4))))))))

def a_box_Box_Append : Ann := .seq .none (.seq (.block (.seq .none (.cond (.seq .none .none) (.seq .none (.cond (.seq .none .none) (.seq .none (.cond (.seq .none .none) .none))))))) (.seq .none (.seqJ [(7, .one .ptr)] [2] (.seq .none (.cond (.seq .none .none) .none)) (.seq .none (.seq .none .none)))))

theorem e_box_Box_Append (A : Amb) (b : Option Addr) (name : ByteArray) (data : ByteArray) (h : Heap) (R : Value → Heap → Prop) : F_box_Box_Append A b name data h R = semFun A P f_box_Box_Append a_box_Box_Append [.pointer b, .string name, .string data] h R := by kernel_rfl
theorem ok_box_Box_Append {A : Amb} {b : Option Addr} {name : ByteArray} {data : ByteArray} {h : Heap} {R : Value → Heap → Prop} (H : F_box_Box_Append A b name data h R) : HCalls A P f_box_Box_Append #[.pointer b, .string name, .string data] h R :=
  semFun_sound mixed (e_box_Box_Append A b name data h R ▸ H)

/-- (*wherry/box.Box).Sync -/
def F_box_Box_Sync (A : Amb) (b : Option Addr) (name : ByteArray) (h : Heap) (R : Value → Heap → Prop) : Prop :=
  HCalls A P f_box_Box_off #[.pointer b] h fun v h1 => ∃ t8 : Bool, v = .bool t8 ∧ (
  PIf t8 (
    R (.int .i64 30) h1) (
    At b fun a =>
    LoadM h1 a fun t13 =>
    RunK A P (Instr.lookup t_map_string_p_box_file (.map t13) (.string name) false) h1 fun v1 h2 => ∃ t15 : Option Addr, v1 = .pointer t15 ∧ (
    PIf (t15.isNone) (
      R (.int .i64 31) h2) (
      HCalls A P f_box_Box_burn #[.pointer b] h2 fun v2 h3 => ∃ t19 : Bool, v2 = .bool t19 ∧ (
      PIf (!t19) (
        R (.int .i64 30) h3) (
        At b fun a1 =>
        LoadM h3 a1 fun t24 =>
        RunK A P (Instr.lookup t_map_string_p_box_file (.map t24) (.string name) false) h3 fun v3 h4 => ∃ t26 : Option Addr, v3 = .pointer t26 ∧ (
        At t26 fun a2 =>
        LoadS h4 a2 fun t32 =>
        At t26 fun a3 =>
        LoadS h4 (a3.add 1) fun t36 =>
        Chk (((t32.size + t36.size : Nat) : Int) ≤ IntKind.i64.max) <|
        At t26 fun a4 =>
        Store h4 a4 (.string (t32 ++ t36)) fun h5 =>
        At t26 fun a5 =>
        Store h5 (a5.add 1) (.string (⟨#[]⟩ : ByteArray)) fun h6 =>
        R (.int .i64 0) h6)))))))

def a_box_Box_Sync : Ann := .seq .none (.seq (.block (.seq .none (.cond (.seq .none .none) (.seq .none (.cond (.seq .none .none) (.seq .none (.cond (.seq .none .none) .none))))))) (.seq .none (.seq .none (.seq .none .none))))

theorem e_box_Box_Sync (A : Amb) (b : Option Addr) (name : ByteArray) (h : Heap) (R : Value → Heap → Prop) : F_box_Box_Sync A b name h R = semFun A P f_box_Box_Sync a_box_Box_Sync [.pointer b, .string name] h R := by kernel_rfl
theorem ok_box_Box_Sync {A : Amb} {b : Option Addr} {name : ByteArray} {h : Heap} {R : Value → Heap → Prop} (H : F_box_Box_Sync A b name h R) : HCalls A P f_box_Box_Sync #[.pointer b, .string name] h R :=
  semFun_sound mixed (e_box_Box_Sync A b name h R ▸ H)

/-- (*wherry/box.Box).Crash -/
def F_box_Box_Crash (A : Amb) (b : Option Addr) (keep : Sl) (h : Heap) (R : Value → Heap → Prop) : Prop :=
  PIf (b.isNone) (
    R (.pointer none) h) (
    HCalls A P f_box_New #[] h fun v h1 => ∃ t13 : Option Addr, v = .pointer t13 ∧ (
    At b fun a =>
    LoadM h1 a fun t17 =>
    HCalls A P f_maps_Keys_of_map_string__box_file_string__box_file #[.map t17] h1 fun v1 h2 => ∃ t18 : Value, v1 = t18 ∧ (
    HCalls A P f_slices_Sorted_of_string #[t18] h2 fun v2 h3 => ∃ t19 : Sl, v2 = .slice t19.p t19.len t19.cap ∧ (
    Loop (fun K (s : Int × Int × Unit) h4 =>
      PIf (decide (s.2.1 < ((t19.len : Nat) : Int))) (
        Join (fun (s1 : Int × Unit) h5 =>
            K (s1.1, (IntKind.wrap .i64 (s.2.1 + (1 : Int))), ()) h5) fun K1 =>
          Idx t19.p t19.len s.2.1 fun a1 =>
          LoadS h4 (a1.add (s.2.1.toNat * 1)) fun t24 =>
          At b fun a2 =>
          LoadM h4 a2 fun t28 =>
          RunK A P (Instr.lookup t_map_string_p_box_file (.map t28) (.string t24) false) h4 fun v3 h6 => ∃ t30 : Option Addr, v3 = .pointer t30 ∧ (
          At t30 fun a3 =>
          LoadS h6 a3 fun t34 =>
          Join (fun (s2 : Int × ByteArray × Unit) h7 =>
              PIf (!sEq s2.2.1 (⟨#[]⟩ : ByteArray)) (
                At t13 fun a4 =>
                LoadM h7 a4 fun t69 =>
                New h7 (.cells #[.string s2.2.1, .string (⟨#[]⟩ : ByteArray)] t_box_file) fun b1 h8 =>
                RunU A P (Instr.mapUpdate t_map_string_p_box_file (.map t69) (.string t24) (.pointer (some (⟨b1, 0, none⟩ : Addr)))) h8 fun h9 => (
                K1 (s2.1, ()) h9)) (
                K1 (s2.1, ()) h7)) fun K2 =>
            At t30 fun a5 =>
            LoadS h6 (a5.add 1) fun t38 =>
            PIf (!sEq t38 (⟨#[]⟩ : ByteArray)) (
              Join (fun (s3 : ByteArray × Unit) h10 =>
                  K2 ((IntKind.wrap .i64 (s.1 + (1 : Int))), s3.1, ()) h10) fun K3 =>
                PIf (decide (s.1 < ((keep.len : Nat) : Int))) (
                  At t30 fun a6 =>
                  LoadS h6 (a6.add 1) fun t48 =>
                  Idx keep.p keep.len s.1 fun a7 =>
                  LoadI .i64 h6 (a7.add (s.1.toNat * 1)) fun t52 =>
                  At t30 fun a8 =>
                  LoadS h6 (a8.add 1) fun t56 =>
                  Chk ((0 : Int) ≤ (if ((if ((t56.size : Int) : Int) < t52 then (t56.size : Int) else t52) : Int) > 0 then (if ((t56.size : Int) : Int) < t52 then (t56.size : Int) else t52) else 0) ∧ (if ((if ((t56.size : Int) : Int) < t52 then (t56.size : Int) else t52) : Int) > 0 then (if ((t56.size : Int) : Int) < t52 then (t56.size : Int) else t52) else 0) ≤ ((t48.size : Nat) : Int)) <|
                  Chk (((t34.size + (t48.extract 0 ((if ((if ((t56.size : Int) : Int) < t52 then (t56.size : Int) else t52) : Int) > 0 then (if ((t56.size : Int) : Int) < t52 then (t56.size : Int) else t52) else 0).toNat)).size : Nat) : Int) ≤ IntKind.i64.max) <|
                  K3 ((t34 ++ (t48.extract 0 ((if ((if ((t56.size : Int) : Int) < t52 then (t56.size : Int) else t52) : Int) > 0 then (if ((t56.size : Int) : Int) < t52 then (t56.size : Int) else t52) else 0).toNat))), ()) h6) (
                  K3 (t34, ()) h6)) (
              K2 (s.1, t34, ()) h6))) (
        At b fun a9 =>
        Store h4 (a9.add 2) (.bool true) fun h11 =>
        R (.pointer t13) h11)) (0, 0, ()) h3))))

def a_box_Box_Crash : Ann := .seq .none (.seq (.seq .none (.cond (.seq .none .none) .none)) (.seq .none (.seq .none (.seq (.seq .none (.block (.loop [(6, .one (.int .i64)), (21, .one (.int .i64))] [0, 1, 5, 19, 20] (.seq .none (.seq (.cond .none .none) (.seq (.blockJ [(6, .one (.int .i64))] [0, 1, 5, 19, 20, 21] (.seq .none (.seq .none (.seq .none (.seqJ [(6, .one (.int .i64)), (10, .one .str)] [0, 1, 5, 8, 19, 20, 21] (.seq .none (.cond (.seqJ [(10, .one .str)] [0, 1, 5, 6, 8, 19, 20, 21] (.seq .none (.cond .none .none)) .none) .none)) (.seq .none (.cond .none .none))))))) .none)))))) (.seq .none (.seq .none .none))))))

theorem e_box_Box_Crash (A : Amb) (b : Option Addr) (keep : Sl) (h : Heap) (R : Value → Heap → Prop) : F_box_Box_Crash A b keep h R = semFun A P f_box_Box_Crash a_box_Box_Crash [.pointer b, .slice keep.p keep.len keep.cap] h R := by kernel_rfl
theorem ok_box_Box_Crash {A : Amb} {b : Option Addr} {keep : Sl} {h : Heap} {R : Value → Heap → Prop} (H : F_box_Box_Crash A b keep h R) : HCalls A P f_box_Box_Crash #[.pointer b, .slice keep.p keep.len keep.cap] h R :=
  semFun_sound mixed (e_box_Box_Crash A b keep h R ▸ H)

/-- (*wherry/box.Box).Read -/
def F_box_Box_Read (A : Amb) (b : Option Addr) (name : ByteArray) (h : Heap) (R : Value → Heap → Prop) : Prop :=
  HCalls A P f_box_Box_off #[.pointer b] h fun v h1 => ∃ t8 : Bool, v = .bool t8 ∧ (
  PIf t8 (
    R (.tuple #[.string (⟨#[]⟩ : ByteArray), .int .i64 30]) h1) (
    At b fun a =>
    LoadM h1 a fun t12 =>
    RunK A P (Instr.lookup t_map_string_p_box_file (.map t12) (.string name) false) h1 fun v1 h2 => ∃ t14 : Option Addr, v1 = .pointer t14 ∧ (
    PIf (t14.isNone) (
      R (.tuple #[.string (⟨#[]⟩ : ByteArray), .int .i64 31]) h2) (
      At t14 fun a1 =>
      LoadS h2 a1 fun t20 =>
      At t14 fun a2 =>
      LoadS h2 (a2.add 1) fun t24 =>
      Chk (((t20.size + t24.size : Nat) : Int) ≤ IntKind.i64.max) <|
      R (.tuple #[.string (t20 ++ t24), .int .i64 0]) h2))))

def a_box_Box_Read : Ann := .seq .none (.seq (.seq .none (.cond (.seq .none .none) .none)) (.seq .none (.seq (.seq .none (.cond (.seq .none .none) .none)) (.seq .none .none))))

theorem e_box_Box_Read (A : Amb) (b : Option Addr) (name : ByteArray) (h : Heap) (R : Value → Heap → Prop) : F_box_Box_Read A b name h R = semFun A P f_box_Box_Read a_box_Box_Read [.pointer b, .string name] h R := by kernel_rfl
theorem ok_box_Box_Read {A : Amb} {b : Option Addr} {name : ByteArray} {h : Heap} {R : Value → Heap → Prop} (H : F_box_Box_Read A b name h R) : HCalls A P f_box_Box_Read #[.pointer b, .string name] h R :=
  semFun_sound mixed (e_box_Box_Read A b name h R ▸ H)

/-- (*wherry/box.Box).Fuel -/
def F_box_Box_Fuel (A : Amb) (b : Option Addr) (n : Int) (h : Heap) (R : Value → Heap → Prop) : Prop :=
  PIf (!b.isNone) (
    At b fun a =>
    Store h (a.add 1) (.int .i64 (if ((-1) : Int) > n then (-1) else n)) fun h1 =>
    R (.tuple #[]) h1) (
    R (.tuple #[]) h)

def a_box_Box_Fuel : Ann := .seq .none (.cond .none .none)

theorem e_box_Box_Fuel (A : Amb) (b : Option Addr) (n : Int) (h : Heap) (R : Value → Heap → Prop) : F_box_Box_Fuel A b n h R = semFun A P f_box_Box_Fuel a_box_Box_Fuel [.pointer b, .int .i64 n] h R := by kernel_rfl
theorem ok_box_Box_Fuel {A : Amb} {b : Option Addr} {n : Int} {h : Heap} {R : Value → Heap → Prop} (H : F_box_Box_Fuel A b n h R) : HCalls A P f_box_Box_Fuel #[.pointer b, .int .i64 n] h R :=
  semFun_sound mixed (e_box_Box_Fuel A b n h R ▸ H)

/-- (*wherry/box.Box).List -/
def F_box_Box_List (A : Amb) (b : Option Addr) (h : Heap) (R : Value → Heap → Prop) : Prop :=
  HCalls A P f_box_Box_off #[.pointer b] h fun v h1 => ∃ t5 : Bool, v = .bool t5 ∧ (
  PIf t5 (
    R (.tuple #[.slice none 0 0, .int .i64 30]) h1) (
    At b fun a =>
    LoadM h1 a fun t9 =>
    HCalls A P f_maps_Keys_of_map_string__box_file_string__box_file #[.map t9] h1 fun v1 h2 => ∃ t10 : Value, v1 = t10 ∧ (
    HCalls A P f_slices_Sorted_of_string #[t10] h2 fun v2 h3 => ∃ t11 : Sl, v2 = .slice t11.p t11.len t11.cap ∧ (
    R (.tuple #[.slice t11.p t11.len t11.cap, .int .i64 0]) h3))))

def a_box_Box_List : Ann := .seq .none (.seq (.seq .none (.cond (.seq .none .none) .none)) (.seq .none .none))

theorem e_box_Box_List (A : Amb) (b : Option Addr) (h : Heap) (R : Value → Heap → Prop) : F_box_Box_List A b h R = semFun A P f_box_Box_List a_box_Box_List [.pointer b] h R := by kernel_rfl
theorem ok_box_Box_List {A : Amb} {b : Option Addr} {h : Heap} {R : Value → Heap → Prop} (H : F_box_Box_List A b h R) : HCalls A P f_box_Box_List #[.pointer b] h R :=
  semFun_sound mixed (e_box_Box_List A b h R ▸ H)

/-- (*wherry/box.Box).Delete -/
def F_box_Box_Delete (A : Amb) (b : Option Addr) (name : ByteArray) (h : Heap) (R : Value → Heap → Prop) : Prop :=
  HCalls A P f_box_Box_off #[.pointer b] h fun v h1 => ∃ t7 : Bool, v = .bool t7 ∧ (
  PIf t7 (
    R (.int .i64 30) h1) (
    At b fun a =>
    LoadM h1 a fun t12 =>
    RunK A P (Instr.lookup t_map_string_p_box_file (.map t12) (.string name) false) h1 fun v1 h2 => ∃ t14 : Option Addr, v1 = .pointer t14 ∧ (
    PIf (t14.isNone) (
      R (.int .i64 31) h2) (
      HCalls A P f_box_Box_burn #[.pointer b] h2 fun v2 h3 => ∃ t18 : Bool, v2 = .bool t18 ∧ (
      PIf (!t18) (
        R (.int .i64 30) h3) (
        At b fun a1 =>
        LoadM h3 a1 fun t23 =>
        RunK A P (Builtin.delete_ #[t_map_string_p_box_file, t_string] t_ #[.map t23, .string name]) h3 fun v3 h4 => v3 = .tuple #[] ∧ (
        R (.int .i64 0) h4)))))))

def a_box_Box_Delete : Ann := .seq .none (.seq (.block (.seq .none (.cond (.seq .none .none) (.seq .none (.cond (.seq .none .none) (.seq .none (.cond (.seq .none .none) .none))))))) (.seq .none (.seq .none .none)))

theorem e_box_Box_Delete (A : Amb) (b : Option Addr) (name : ByteArray) (h : Heap) (R : Value → Heap → Prop) : F_box_Box_Delete A b name h R = semFun A P f_box_Box_Delete a_box_Box_Delete [.pointer b, .string name] h R := by kernel_rfl
theorem ok_box_Box_Delete {A : Amb} {b : Option Addr} {name : ByteArray} {h : Heap} {R : Value → Heap → Prop} (H : F_box_Box_Delete A b name h R) : HCalls A P f_box_Box_Delete #[.pointer b, .string name] h R :=
  semFun_sound mixed (e_box_Box_Delete A b name h R ▸ H)

/-- wherry/wherryref03.New -/
def F_wherryref03_New (A : Amb) (h : Heap) (R : Value → Heap → Prop) : Prop :=
  New h (.cells #[.slice none 0 0, .int .i64 (-1), .bool false] t_wherryref03_Box) fun b h1 =>
  R (.pointer (some (⟨b, 0, none⟩ : Addr))) h1

def a_wherryref03_New : Ann := .seq .none (.seq .none .none)

theorem e_wherryref03_New (A : Amb) (h : Heap) (R : Value → Heap → Prop) : F_wherryref03_New A h R = semFun A P f_wherryref03_New a_wherryref03_New [] h R := by kernel_rfl
theorem ok_wherryref03_New {A : Amb} {h : Heap} {R : Value → Heap → Prop} (H : F_wherryref03_New A h R) : HCalls A P f_wherryref03_New #[] h R :=
  semFun_sound mixed (e_wherryref03_New A h R ▸ H)

/-- (*wherry/wherryref03.Box).Append -/
def F_wherryref03_Box_Append (A : Amb) (b : Option Addr) (name : ByteArray) (data : ByteArray) (h : Heap) (R : Value → Heap → Prop) : Prop :=
  At b fun a =>
  LoadB h (a.add 2) fun t13 =>
  PIf t13 (
    R (.int .i64 30) h) (
    Join (fun (r : Bool × Unit) h1 =>
        PIf r.1 (
          R (.int .i64 1) h1) (
          HCalls A P f_wherryref03_Box_burn #[.pointer b] h1 fun v h2 => ∃ t23 : Bool, v = .bool t23 ∧ (
          PIf (!t23) (
            R (.int .i64 30) h2) (
            HCalls A P f_wherryref03_Box_at #[.pointer b, .string name] h2 fun v1 h3 => ∃ t28a : Int, ∃ t28b : Bool, v1 = .tuple #[.int .i64 t28a, .bool t28b] ∧ (
            Join (fun (s : Unit) h4 =>
                At b fun a1 =>
                LoadL h4 a1 fun t59 =>
                Idx t59.p t59.len t28a fun a2 =>
                LoadS h4 ((a2.add (t28a.toNat * 3)).add 2) fun t63 =>
                Chk (((t63.size + data.size : Nat) : Int) ≤ IntKind.i64.max) <|
                Idx t59.p t59.len t28a fun a3 =>
                Store h4 ((a3.add (t28a.toNat * 3)).add 2) (.string (t63 ++ data)) fun h5 =>
                R (.int .i64 0) h5) fun K1 =>
              PIf (!t28b) (
                At b fun a4 =>
                LoadL h3 a4 fun t36 =>
                Chk ((0 : Int) ≤ t28a ∧ t28a ≤ ((t36.cap : Nat) : Int)) <|
                RunK A P (Builtin.append_ #[t_sl_wherryref03_File, t_sl_wherryref03_File] t_sl_wherryref03_File #[.slice none 0 0, .slice (slOff t36.p t36.cap 0 3) (t28a.toNat - 0) (t36.cap - 0)]) h3 fun v2 h6 => ∃ t39 : Sl, v2 = .slice t39.p t39.len t39.cap ∧ (
                New h6 (.cells #[.string name, .string (⟨#[]⟩ : ByteArray), .string (⟨#[]⟩ : ByteArray)] t_wherryref03_File) fun b1 h7 =>
                RunK A P (Builtin.append_ #[t_sl_wherryref03_File, t_sl_wherryref03_File] t_sl_wherryref03_File #[.slice t39.p t39.len t39.cap, .slice (some (⟨b1, 0, none⟩ : Addr)) 1 1]) h7 fun v3 h8 => ∃ t44 : Sl, v3 = .slice t44.p t44.len t44.cap ∧ (
                At b fun a5 =>
                LoadL h8 a5 fun t50 =>
                Chk ((0 : Int) ≤ t28a ∧ t28a ≤ ((t50.len : Nat) : Int)) <|
                RunK A P (Builtin.append_ #[t_sl_wherryref03_File, t_sl_wherryref03_File] t_sl_wherryref03_File #[.slice t44.p t44.len t44.cap, .slice (slOff t50.p t50.cap t28a.toNat 3) (t50.len - t28a.toNat) (t50.cap - t28a.toNat)]) h8 fun v4 h9 => ∃ t53 : Sl, v4 = .slice t53.p t53.len t53.cap ∧ (
                At b fun a6 =>
                Store h9 a6 (.slice t53.p t53.len t53.cap) fun h10 =>
                K1 () h10)))) (
                K1 () h3)))))) fun K =>
      PIf (decide ((name.size : Int) < (1 : Int))) (
        K (true, ()) h) (
        K ((decide ((name.size : Int) > (32 : Int))), ()) h))

def a_wherryref03_Box_Append : Ann := .seq .none (.seq (.seq .none (.cond (.seq .none .none) .none)) (.seq (.seq (.reg [(21, .one .bool)] [0, 1, 2]) (.cond (.seq .none .none) .none)) (.seq (.seq .none (.cond (.seq .none .none) .none)) (.seq .none (.seqJ [] [0, 2, 7] (.seq .none (.cond (.seq .none (.seq .none .none)) .none)) (.seq .none (.seq .none .none)))))))

theorem e_wherryref03_Box_Append (A : Amb) (b : Option Addr) (name : ByteArray) (data : ByteArray) (h : Heap) (R : Value → Heap → Prop) : F_wherryref03_Box_Append A b name data h R = semFun A P f_wherryref03_Box_Append a_wherryref03_Box_Append [.pointer b, .string name, .string data] h R := by kernel_rfl
theorem ok_wherryref03_Box_Append {A : Amb} {b : Option Addr} {name : ByteArray} {data : ByteArray} {h : Heap} {R : Value → Heap → Prop} (H : F_wherryref03_Box_Append A b name data h R) : HCalls A P f_wherryref03_Box_Append #[.pointer b, .string name, .string data] h R :=
  semFun_sound mixed (e_wherryref03_Box_Append A b name data h R ▸ H)

/-- (*wherry/wherryref03.Box).Sync -/
def F_wherryref03_Box_Sync (A : Amb) (b : Option Addr) (name : ByteArray) (h : Heap) (R : Value → Heap → Prop) : Prop :=
  HCalls A P f_wherryref03_Box_at #[.pointer b, .string name] h fun v h1 => ∃ t10a : Int, ∃ t10b : Bool, v = .tuple #[.int .i64 t10a, .bool t10b] ∧ (
  At b fun a =>
  LoadB h1 (a.add 2) fun t16 =>
  PIf t16 (
    R (.int .i64 30) h1) (
    PIf (!t10b) (
      R (.int .i64 31) h1) (
      HCalls A P f_wherryref03_Box_burn #[.pointer b] h1 fun v1 h2 => ∃ t20 : Bool, v1 = .bool t20 ∧ (
      PIf (!t20) (
        R (.int .i64 30) h2) (
        At b fun a1 =>
        LoadL h2 a1 fun t25 =>
        Idx t25.p t25.len t10a fun a2 =>
        LoadS h2 ((a2.add (t10a.toNat * 3)).add 1) fun t29 =>
        At b fun a3 =>
        LoadL h2 a3 fun t33 =>
        Idx t33.p t33.len t10a fun a4 =>
        LoadS h2 ((a4.add (t10a.toNat * 3)).add 2) fun t37 =>
        Chk (((t29.size + t37.size : Nat) : Int) ≤ IntKind.i64.max) <|
        Idx t25.p t25.len t10a fun a5 =>
        Store h2 ((a5.add (t10a.toNat * 3)).add 1) (.string (t29 ++ t37)) fun h3 =>
        At b fun a6 =>
        LoadL h3 a6 fun t44 =>
        Idx t44.p t44.len t10a fun a7 =>
        Store h3 ((a7.add (t10a.toNat * 3)).add 2) (.string (⟨#[]⟩ : ByteArray)) fun h4 =>
        R (.int .i64 0) h4)))))

def a_wherryref03_Box_Sync : Ann := .seq .none (.seq .none (.seq (.seq .none (.cond (.seq .none .none) .none)) (.seq (.seq .none (.cond (.seq .none .none) .none)) (.seq (.seq .none (.cond (.seq .none .none) .none)) (.seq .none (.seq .none (.seq .none .none)))))))

theorem e_wherryref03_Box_Sync (A : Amb) (b : Option Addr) (name : ByteArray) (h : Heap) (R : Value → Heap → Prop) : F_wherryref03_Box_Sync A b name h R = semFun A P f_wherryref03_Box_Sync a_wherryref03_Box_Sync [.pointer b, .string name] h R := by kernel_rfl
theorem ok_wherryref03_Box_Sync {A : Amb} {b : Option Addr} {name : ByteArray} {h : Heap} {R : Value → Heap → Prop} (H : F_wherryref03_Box_Sync A b name h R) : HCalls A P f_wherryref03_Box_Sync #[.pointer b, .string name] h R :=
  semFun_sound mixed (e_wherryref03_Box_Sync A b name h R ▸ H)

/-- (*wherry/wherryref03.Box).Delete -/
def F_wherryref03_Box_Delete (A : Amb) (b : Option Addr) (name : ByteArray) (h : Heap) (R : Value → Heap → Prop) : Prop :=
  HCalls A P f_wherryref03_Box_at #[.pointer b, .string name] h fun v h1 => ∃ t10a : Int, ∃ t10b : Bool, v = .tuple #[.int .i64 t10a, .bool t10b] ∧ (
  At b fun a =>
  LoadB h1 (a.add 2) fun t16 =>
  PIf t16 (
    R (.int .i64 30) h1) (
    PIf (!t10b) (
      R (.int .i64 31) h1) (
      HCalls A P f_wherryref03_Box_burn #[.pointer b] h1 fun v1 h2 => ∃ t20 : Bool, v1 = .bool t20 ∧ (
      PIf (!t20) (
        R (.int .i64 30) h2) (
        At b fun a1 =>
        LoadL h2 a1 fun t26 =>
        Chk ((0 : Int) ≤ t10a ∧ t10a ≤ ((t26.cap : Nat) : Int)) <|
        RunK A P (Builtin.append_ #[t_sl_wherryref03_File, t_sl_wherryref03_File] t_sl_wherryref03_File #[.slice none 0 0, .slice (slOff t26.p t26.cap 0 3) (t10a.toNat - 0) (t26.cap - 0)]) h2 fun v2 h3 => ∃ t29 : Sl, v2 = .slice t29.p t29.len t29.cap ∧ (
        At b fun a2 =>
        LoadL h3 a2 fun t33 =>
        And (hget h2 a2 = some (.slice t33.p t33.len t33.cap)) <|
        Chk ((0 : Int) ≤ (IntKind.wrap .i64 (t10a + (1 : Int))) ∧ (IntKind.wrap .i64 (t10a + (1 : Int))) ≤ ((t33.len : Nat) : Int)) <|
        RunK A P (Builtin.append_ #[t_sl_wherryref03_File, t_sl_wherryref03_File] t_sl_wherryref03_File #[.slice t29.p t29.len t29.cap, .slice (slOff t33.p t33.cap ((IntKind.wrap .i64 (t10a + (1 : Int))).toNat) 3) (t33.len - ((IntKind.wrap .i64 (t10a + (1 : Int))).toNat)) (t33.cap - ((IntKind.wrap .i64 (t10a + (1 : Int))).toNat))]) h3 fun v3 h4 => ∃ t37 : Sl, v3 = .slice t37.p t37.len t37.cap ∧ (
        At b fun a3 =>
        Store h4 a3 (.slice t37.p t37.len t37.cap) fun h5 =>
        R (.int .i64 0) h5)))))))

def a_wherryref03_Box_Delete : Ann := .seq .none (.seq .none (.seq (.seq .none (.cond (.seq .none .none) .none)) (.seq (.seq .none (.cond (.seq .none .none) .none)) (.seq (.seq .none (.cond (.seq .none .none) .none)) (.seq .none (.seq .none .none))))))

theorem e_wherryref03_Box_Delete (A : Amb) (b : Option Addr) (name : ByteArray) (h : Heap) (R : Value → Heap → Prop) : F_wherryref03_Box_Delete A b name h R = semFun A P f_wherryref03_Box_Delete a_wherryref03_Box_Delete [.pointer b, .string name] h R := by kernel_rfl
theorem ok_wherryref03_Box_Delete {A : Amb} {b : Option Addr} {name : ByteArray} {h : Heap} {R : Value → Heap → Prop} (H : F_wherryref03_Box_Delete A b name h R) : HCalls A P f_wherryref03_Box_Delete #[.pointer b, .string name] h R :=
  semFun_sound mixed (e_wherryref03_Box_Delete A b name h R ▸ H)

/-- (*wherry/wherryref03.Box).Crash -/
def F_wherryref03_Box_Crash (A : Amb) (b : Option Addr) (keep : Sl) (h : Heap) (R : Value → Heap → Prop) : Prop :=
  HCalls A P f_wherryref03_New #[] h fun v h1 => ∃ t10 : Option Addr, v = .pointer t10 ∧ (
  Loop (fun K (s : Int × Int × Unit) h2 =>
    At b fun a =>
    LoadL h2 a fun t15 =>
    PIf (decide (s.2.1 < ((t15.len : Nat) : Int))) (
      Join (fun (s1 : Int × Unit) h3 =>
          K (s1.1, (IntKind.wrap .i64 (s.2.1 + (1 : Int))), ()) h3) fun K1 =>
        At b fun a1 =>
        LoadL h2 a1 fun t23 =>
        Idx t23.p t23.len s.2.1 fun a2 =>
        LoadS h2 (a2.add (s.2.1.toNat * 3)) fun t26_0 =>
        LoadS h2 ((a2.add (s.2.1.toNat * 3)).add 1) fun t26_1 =>
        LoadS h2 ((a2.add (s.2.1.toNat * 3)).add 2) fun t26_2 =>
        New h2 (.cells #[.string (⟨#[]⟩ : ByteArray), .string (⟨#[]⟩ : ByteArray), .string (⟨#[]⟩ : ByteArray)] t_wherryref03_File) fun b1 h4 =>
        Store h4 (⟨b1, 0, none⟩ : Addr) (.string t26_0) fun h5 =>
        Store h5 ((⟨b1, 0, none⟩ : Addr).add 1) (.string t26_1) fun h6 =>
        Store h6 ((⟨b1, 0, none⟩ : Addr).add 2) (.string t26_2) fun h7 =>
        LoadS h7 ((⟨b1, 0, none⟩ : Addr).add 1) fun t28 =>
        Join (fun (s2 : Int × ByteArray × Unit) h8 =>
            PIf (!sEq s2.2.1 (⟨#[]⟩ : ByteArray)) (
              At t10 fun a3 =>
              LoadL h8 a3 fun t64 =>
              LoadS h8 (⟨b1, 0, none⟩ : Addr) fun t66 =>
              New h8 (.cells #[.string t66, .string s2.2.1, .string (⟨#[]⟩ : ByteArray)] t_wherryref03_File) fun b2 h9 =>
              (hget h9 a3 = some (.slice t64.p t64.len t64.cap)) ∧
              RunK A P (Builtin.append_ #[t_sl_wherryref03_File, t_sl_wherryref03_File] t_sl_wherryref03_File #[.slice t64.p t64.len t64.cap, .slice (some (⟨b2, 0, none⟩ : Addr)) 1 1]) h9 fun v1 h10 => ∃ t70 : Sl, v1 = .slice t70.p t70.len t70.cap ∧ (
              At t10 fun a4 =>
              Store h10 a4 (.slice t70.p t70.len t70.cap) fun h11 =>
              K1 (s2.1, ()) h11)) (
              K1 (s2.1, ()) h8)) fun K2 =>
          LoadS h7 ((⟨b1, 0, none⟩ : Addr).add 2) fun t30 =>
          PIf (!sEq t30 (⟨#[]⟩ : ByteArray)) (
            Join (fun (s3 : ByteArray × Unit) h12 =>
                K2 ((IntKind.wrap .i64 (s.1 + (1 : Int))), s3.1, ()) h12) fun K3 =>
              Join (fun (r : Bool × Unit) h13 =>
                  PIf r.1 (
                    LoadS h13 ((⟨b1, 0, none⟩ : Addr).add 2) fun t45 =>
                    Idx keep.p keep.len s.1 fun a5 =>
                    LoadI .i64 h13 (a5.add (s.1.toNat * 1)) fun t49 =>
                    LoadS h13 ((⟨b1, 0, none⟩ : Addr).add 2) fun t51 =>
                    Chk ((0 : Int) ≤ (if ((t51.size : Int) : Int) < t49 then (t51.size : Int) else t49) ∧ (if ((t51.size : Int) : Int) < t49 then (t51.size : Int) else t49) ≤ ((t45.size : Nat) : Int)) <|
                    Chk (((t28.size + (t45.extract 0 ((if ((t51.size : Int) : Int) < t49 then (t51.size : Int) else t49).toNat)).size : Nat) : Int) ≤ IntKind.i64.max) <|
                    K3 ((t28 ++ (t45.extract 0 ((if ((t51.size : Int) : Int) < t49 then (t51.size : Int) else t49).toNat))), ()) h13) (
                    K3 (t28, ()) h13)) fun K4 =>
                PIf (decide (s.1 < ((keep.len : Nat) : Int))) (
                  Idx keep.p keep.len s.1 fun a6 =>
                  LoadI .i64 h7 (a6.add (s.1.toNat * 1)) fun t40 =>
                  K4 ((decide (t40 > (0 : Int))), ()) h7) (
                  K4 (false, ()) h7)) (
            K2 (s.1, t28, ()) h7)) (
      At b fun a7 =>
      Store h2 (a7.add 2) (.bool true) fun h14 =>
      R (.pointer t10) h14)) (0, 0, ()) h1)

def a_wherryref03_Box_Crash : Ann := .seq .none (.seq .none (.seq .none (.seq (.seq .none (.block (.loop [(6, .one (.int .i64)), (7, .one (.int .i64))] [0, 1, 5] (.seq (.seq .none (.cond .none .none)) (.seq (.blockJ [(6, .one (.int .i64))] [0, 1, 5, 7] (.seq .none (.seq .none (.seqJ [(6, .one (.int .i64)), (9, .one .str)] [0, 1, 5, 7, 8] (.seq .none (.cond (.seqJ [(9, .one .str)] [0, 1, 5, 6, 7, 8] (.seq (.reg [(42, .one .bool)] [0, 1, 5, 6, 7, 8, 9]) (.cond .none .none)) .none) .none)) (.seq .none (.cond .none .none)))))) .none))))) (.seq .none (.seq .none .none)))))

theorem e_wherryref03_Box_Crash (A : Amb) (b : Option Addr) (keep : Sl) (h : Heap) (R : Value → Heap → Prop) : F_wherryref03_Box_Crash A b keep h R = semFun A P f_wherryref03_Box_Crash a_wherryref03_Box_Crash [.pointer b, .slice keep.p keep.len keep.cap] h R := by kernel_rfl
theorem ok_wherryref03_Box_Crash {A : Amb} {b : Option Addr} {keep : Sl} {h : Heap} {R : Value → Heap → Prop} (H : F_wherryref03_Box_Crash A b keep h R) : HCalls A P f_wherryref03_Box_Crash #[.pointer b, .slice keep.p keep.len keep.cap] h R :=
  semFun_sound mixed (e_wherryref03_Box_Crash A b keep h R ▸ H)

/-- (*wherry/wherryref03.Box).Read -/
def F_wherryref03_Box_Read (A : Amb) (b : Option Addr) (name : ByteArray) (h : Heap) (R : Value → Heap → Prop) : Prop :=
  HCalls A P f_wherryref03_Box_at #[.pointer b, .string name] h fun v h1 => ∃ t11a : Int, ∃ t11b : Bool, v = .tuple #[.int .i64 t11a, .bool t11b] ∧ (
  At b fun a =>
  LoadB h1 (a.add 2) fun t17 =>
  PIf t17 (
    R (.tuple #[.string (⟨#[]⟩ : ByteArray), .int .i64 30]) h1) (
    PIf (!t11b) (
      R (.tuple #[.string (⟨#[]⟩ : ByteArray), .int .i64 31]) h1) (
      At b fun a1 =>
      LoadL h1 a1 fun t23 =>
      Idx t23.p t23.len t11a fun a2 =>
      LoadS h1 ((a2.add (t11a.toNat * 3)).add 1) fun t27 =>
      At b fun a3 =>
      LoadL h1 a3 fun t31 =>
      Idx t31.p t31.len t11a fun a4 =>
      LoadS h1 ((a4.add (t11a.toNat * 3)).add 2) fun t35 =>
      Chk (((t27.size + t35.size : Nat) : Int) ≤ IntKind.i64.max) <|
      R (.tuple #[.string (t27 ++ t35), .int .i64 0]) h1)))

def a_wherryref03_Box_Read : Ann := .seq .none (.seq .none (.seq (.seq .none (.cond (.seq .none .none) .none)) (.seq (.seq .none (.cond (.seq .none .none) .none)) (.seq .none .none))))

theorem e_wherryref03_Box_Read (A : Amb) (b : Option Addr) (name : ByteArray) (h : Heap) (R : Value → Heap → Prop) : F_wherryref03_Box_Read A b name h R = semFun A P f_wherryref03_Box_Read a_wherryref03_Box_Read [.pointer b, .string name] h R := by kernel_rfl
theorem ok_wherryref03_Box_Read {A : Amb} {b : Option Addr} {name : ByteArray} {h : Heap} {R : Value → Heap → Prop} (H : F_wherryref03_Box_Read A b name h R) : HCalls A P f_wherryref03_Box_Read #[.pointer b, .string name] h R :=
  semFun_sound mixed (e_wherryref03_Box_Read A b name h R ▸ H)

/-- wherry/wherrylaw03.same -/
def F_wherrylaw03_same (A : Amb) (b : Option Addr) (m : Option Addr) (h : Heap) (R : Value → Heap → Prop) : Prop :=
  HCalls A P f_box_Box_List #[.pointer b] h fun v h1 => ∃ t17a : Sl, ∃ t17b : Int, v = .tuple #[.slice t17a.p t17a.len t17a.cap, .int .i64 t17b] ∧ (
  HCalls A P f_wherryref03_Box_List #[.pointer m] h1 fun v1 h2 => ∃ t22a : Sl, ∃ t22b : Int, v1 = .tuple #[.slice t22a.p t22a.len t22a.cap, .int .i64 t22b] ∧ (
  Join (fun (r : Bool × Unit) h3 =>
      PIf r.1 (
        R (.bool false) h3) (
        Loop (fun K1 (s : Int × Unit) h4 =>
          PIf (decide (s.1 < ((t22a.len : Nat) : Int))) (
            Idx t22a.p t22a.len s.1 fun a =>
            LoadS h4 (a.add (s.1.toNat * 1)) fun t39 =>
            HCalls A P f_box_Box_Read #[.pointer b, .string t39] h4 fun v2 h5 => ∃ t43a : ByteArray, ∃ t43b : Int, v2 = .tuple #[.string t43a, .int .i64 t43b] ∧ (
            HCalls A P f_wherryref03_Box_Read #[.pointer m, .string t39] h5 fun v3 h6 => ∃ t49a : ByteArray, ∃ t49b : Int, v3 = .tuple #[.string t49a, .int .i64 t49b] ∧ (
            Join (fun (r1 : Bool × Unit) h7 =>
                PIf r1.1 (
                  R (.bool false) h7) (
                  K1 ((IntKind.wrap .i64 (s.1 + (1 : Int))), ()) h7)) fun K2 =>
              PIf (!sEq t43a t49a) (
                K2 (true, ()) h6) (
                K2 ((t43b != t49b), ()) h6)))) (
            R (.bool true) h4)) (0, ()) h3)) fun K =>
    PIf (t17b != t22b) (
      K (true, ()) h2) (
      HCalls A P f_wherryref02_Same #[.slice t17a.p t17a.len t17a.cap, .slice t22a.p t22a.len t22a.cap] h2 fun v4 h8 => ∃ t31 : Bool, v4 = .bool t31 ∧ (
      K ((!t31), ()) h8))))

def a_wherrylaw03_same : Ann := .seq .none (.seq .none (.seq .none (.seq (.seq (.reg [(33, .one .bool)] [0, 1, 7]) (.cond (.seq .none .none) .none)) (.seq (.seq .none (.block (.loop [(36, .one (.int .i64))] [0, 1, 34, 35] (.seq .none (.seq (.cond .none .none) (.seq (.block (.seq .none (.seq .none (.seq .none (.seq (.reg [(59, .one .bool)] [0, 1, 34, 35, 36]) (.cond (.seq .none .none) .none)))))) .none)))))) (.seq .none .none)))))

theorem e_wherrylaw03_same (A : Amb) (b : Option Addr) (m : Option Addr) (h : Heap) (R : Value → Heap → Prop) : F_wherrylaw03_same A b m h R = semFun A P f_wherrylaw03_same a_wherrylaw03_same [.pointer b, .pointer m] h R := by kernel_rfl
theorem ok_wherrylaw03_same {A : Amb} {b : Option Addr} {m : Option Addr} {h : Heap} {R : Value → Heap → Prop} (H : F_wherrylaw03_same A b m h R) : HCalls A P f_wherrylaw03_same #[.pointer b, .pointer m] h R :=
  semFun_sound mixed (e_wherrylaw03_same A b m h R ▸ H)

/-- (*wherry/box.Box).off -/
def F_box_Box_off (A : Amb) (b : Option Addr) (h : Heap) (R : Value → Heap → Prop) : Prop :=
  PIf (b.isNone) (
    R (.bool true) h) (
    At b fun a =>
    LoadB h (a.add 2) fun t9 =>
    R (.bool t9) h)

def a_box_Box_off : Ann := .seq .none (.seq .none .none)

theorem e_box_Box_off (A : Amb) (b : Option Addr) (h : Heap) (R : Value → Heap → Prop) : F_box_Box_off A b h R = semFun A P f_box_Box_off a_box_Box_off [.pointer b] h R := by kernel_rfl
theorem ok_box_Box_off {A : Amb} {b : Option Addr} {h : Heap} {R : Value → Heap → Prop} (H : F_box_Box_off A b h R) : HCalls A P f_box_Box_off #[.pointer b] h R :=
  semFun_sound mixed (e_box_Box_off A b h R ▸ H)

/-- wherry/box.wrong -/
def F_box_wrong (A : Amb) (name : ByteArray) (h : Heap) (R : Value → Heap → Prop) : Prop :=
  PIf (sEq name (⟨#[]⟩ : ByteArray)) (
    R (.bool true) h) (
    R (.bool (decide ((name.size : Int) > (32 : Int)))) h)

def a_box_wrong : Ann := .seq .none (.seq .none .none)

theorem e_box_wrong (A : Amb) (name : ByteArray) (h : Heap) (R : Value → Heap → Prop) : F_box_wrong A name h R = semFun A P f_box_wrong a_box_wrong [.string name] h R := by kernel_rfl
theorem ok_box_wrong {A : Amb} {name : ByteArray} {h : Heap} {R : Value → Heap → Prop} (H : F_box_wrong A name h R) : HCalls A P f_box_wrong #[.string name] h R :=
  semFun_sound mixed (e_box_wrong A name h R ▸ H)

/-- (*wherry/box.Box).burn -/
def F_box_Box_burn (A : Amb) (b : Option Addr) (h : Heap) (R : Value → Heap → Prop) : Prop :=
  At b fun a =>
  LoadI .i64 h (a.add 1) fun t6 =>
  PIf (t6 == (0 : Int)) (
    At b fun a1 =>
    Store h (a1.add 2) (.bool true) fun h1 =>
    R (.bool false) h1) (
    Join (fun (s : Unit) h2 =>
        R (.bool true) h2) fun K =>
      At b fun a2 =>
      LoadI .i64 h (a2.add 1) fun t14 =>
      PIf (decide (t14 > (0 : Int))) (
        At b fun a3 =>
        LoadI .i64 h (a3.add 1) fun t19 =>
        At b fun a4 =>
        Store h (a4.add 1) (.int .i64 (IntKind.wrap .i64 (t19 - (1 : Int)))) fun h3 =>
        K () h3) (
        K () h))

def a_box_Box_burn : Ann := .seq .none (.seq (.seq .none (.cond (.seq .none (.seq .none .none)) .none)) (.seqJ [] [] (.seq .none (.cond .none .none)) (.seq .none .none)))

theorem e_box_Box_burn (A : Amb) (b : Option Addr) (h : Heap) (R : Value → Heap → Prop) : F_box_Box_burn A b h R = semFun A P f_box_Box_burn a_box_Box_burn [.pointer b] h R := by kernel_rfl
theorem ok_box_Box_burn {A : Amb} {b : Option Addr} {h : Heap} {R : Value → Heap → Prop} (H : F_box_Box_burn A b h R) : HCalls A P f_box_Box_burn #[.pointer b] h R :=
  semFun_sound mixed (e_box_Box_burn A b h R ▸ H)

/-- maps.Keys[map[string]*wherry/box.file,string,*wherry/box.file] -/
def F_maps_Keys_of_map_string__box_file_string__box_file (A : Amb) (m : Option Nat) (h : Heap) (R : Value → Heap → Prop) : Prop :=
  New h (.cells #[.map m] t_map_string_p_box_file) fun b h1 =>
  R ((.func (.func f_maps_Keys_of_map_string__box_file_string__box_file_1) #[] #[.pointer (some (⟨b, 0, none⟩ : Addr))])) h1

def a_maps_Keys_of_map_string__box_file_string__box_file : Ann := .seq .none (.seq .none .none)

theorem e_maps_Keys_of_map_string__box_file_string__box_file (A : Amb) (m : Option Nat) (h : Heap) (R : Value → Heap → Prop) : F_maps_Keys_of_map_string__box_file_string__box_file A m h R = semFun A P f_maps_Keys_of_map_string__box_file_string__box_file a_maps_Keys_of_map_string__box_file_string__box_file [.map m] h R := by kernel_rfl
theorem ok_maps_Keys_of_map_string__box_file_string__box_file {A : Amb} {m : Option Nat} {h : Heap} {R : Value → Heap → Prop} (H : F_maps_Keys_of_map_string__box_file_string__box_file A m h R) : HCalls A P f_maps_Keys_of_map_string__box_file_string__box_file #[.map m] h R :=
  semFun_sound mixed (e_maps_Keys_of_map_string__box_file_string__box_file A m h R ▸ H)

/-- (*wherry/wherryref03.Box).burn -/
def F_wherryref03_Box_burn (A : Amb) (b : Option Addr) (h : Heap) (R : Value → Heap → Prop) : Prop :=
  At b fun a =>
  LoadI .i64 h (a.add 1) fun t6 =>
  PIf (t6 == (0 : Int)) (
    At b fun a1 =>
    Store h (a1.add 2) (.bool true) fun h1 =>
    R (.bool false) h1) (
    Join (fun (s : Unit) h2 =>
        R (.bool true) h2) fun K =>
      At b fun a2 =>
      LoadI .i64 h (a2.add 1) fun t14 =>
      PIf (decide (t14 > (0 : Int))) (
        At b fun a3 =>
        LoadI .i64 h (a3.add 1) fun t19 =>
        At b fun a4 =>
        Store h (a4.add 1) (.int .i64 (IntKind.wrap .i64 (t19 - (1 : Int)))) fun h3 =>
        K () h3) (
        K () h))

def a_wherryref03_Box_burn : Ann := .seq .none (.seq (.seq .none (.cond (.seq .none (.seq .none .none)) .none)) (.seqJ [] [] (.seq .none (.cond .none .none)) (.seq .none .none)))

theorem e_wherryref03_Box_burn (A : Amb) (b : Option Addr) (h : Heap) (R : Value → Heap → Prop) : F_wherryref03_Box_burn A b h R = semFun A P f_wherryref03_Box_burn a_wherryref03_Box_burn [.pointer b] h R := by kernel_rfl
theorem ok_wherryref03_Box_burn {A : Amb} {b : Option Addr} {h : Heap} {R : Value → Heap → Prop} (H : F_wherryref03_Box_burn A b h R) : HCalls A P f_wherryref03_Box_burn #[.pointer b] h R :=
  semFun_sound mixed (e_wherryref03_Box_burn A b h R ▸ H)

/-- (*wherry/wherryref03.Box).at -/
def F_wherryref03_Box_at (A : Amb) (b : Option Addr) (name : ByteArray) (h : Heap) (R : Value → Heap → Prop) : Prop :=
  Loop (fun K (s : Int × Unit) h1 =>
    Join (fun (r : Bool × Unit) h2 =>
        PIf r.1 (
          K ((IntKind.wrap .i64 (s.1 + (1 : Int))), ()) h2) (
          At b fun a =>
          LoadL h2 a fun t34 =>
          PIf (decide (s.1 < ((t34.len : Nat) : Int))) (
            At b fun a1 =>
            LoadL h2 a1 fun t41 =>
            Idx t41.p t41.len s.1 fun a2 =>
            LoadS h2 (a2.add (s.1.toNat * 3)) fun t45 =>
            R (.tuple #[.int .i64 s.1, .bool (sEq t45 name)]) h2) (
            R (.tuple #[.int .i64 s.1, .bool false]) h2))) fun K1 =>
      At b fun a3 =>
      LoadL h1 a3 fun t11 =>
      PIf (decide (s.1 < ((t11.len : Nat) : Int))) (
        At b fun a4 =>
        LoadL h1 a4 fun t18 =>
        Idx t18.p t18.len s.1 fun a5 =>
        LoadS h1 (a5.add (s.1.toNat * 3)) fun t22 =>
        HCalls A P f_strings_Compare #[.string t22, .string name] h1 fun v h3 => ∃ t24 : Int, v = .int .i64 t24 ∧ (
        K1 ((decide (t24 < (0 : Int))), ()) h3)) (
        K1 (false, ()) h1)) (0, ()) h

def a_wherryref03_Box_at : Ann := .seq .none (.seq .none (.seq (.block (.loop [(6, .one (.int .i64))] [0, 1] (.seq (.seq (.reg [(26, .one .bool)] [0, 1, 6]) (.cond .none .none)) (.block .none)))) (.seq .none .none)))

theorem e_wherryref03_Box_at (A : Amb) (b : Option Addr) (name : ByteArray) (h : Heap) (R : Value → Heap → Prop) : F_wherryref03_Box_at A b name h R = semFun A P f_wherryref03_Box_at a_wherryref03_Box_at [.pointer b, .string name] h R := by kernel_rfl
theorem ok_wherryref03_Box_at {A : Amb} {b : Option Addr} {name : ByteArray} {h : Heap} {R : Value → Heap → Prop} (H : F_wherryref03_Box_at A b name h R) : HCalls A P f_wherryref03_Box_at #[.pointer b, .string name] h R :=
  semFun_sound mixed (e_wherryref03_Box_at A b name h R ▸ H)

/-- (*wherry/wherryref03.Box).List -/
def F_wherryref03_Box_List (A : Amb) (b : Option Addr) (h : Heap) (R : Value → Heap → Prop) : Prop :=
  At b fun a =>
  LoadB h (a.add 2) fun t9 =>
  PIf t9 (
    R (.tuple #[.slice none 0 0, .int .i64 30]) h) (
    Loop (fun K (s : Sl × Int × Unit) h1 =>
      At b fun a1 =>
      LoadL h1 a1 fun t14 =>
      PIf (decide (s.2.1 < ((t14.len : Nat) : Int))) (
        At b fun a2 =>
        LoadL h1 a2 fun t23 =>
        Idx t23.p t23.len s.2.1 fun a3 =>
        LoadS h1 (a3.add (s.2.1.toNat * 3)) fun t27 =>
        New h1 (.cells #[.string t27] t_string) fun b1 h2 =>
        RunK A P (Builtin.append_ #[t_sl_string, t_sl_string] t_sl_string #[.slice s.1.p s.1.len s.1.cap, .slice (some (⟨b1, 0, none⟩ : Addr)) 1 1]) h2 fun v h3 => ∃ t29 : Sl, v = .slice t29.p t29.len t29.cap ∧ (
        K ((⟨t29.p, t29.len, t29.cap⟩ : Sl), (IntKind.wrap .i64 (s.2.1 + (1 : Int))), ()) h3)) (
        R (.tuple #[.slice s.1.p s.1.len s.1.cap, .int .i64 0]) h1)) ((⟨none, 0, 0⟩ : Sl), 0, ()) h)

def a_wherryref03_Box_List : Ann := .seq .none (.seq (.seq .none (.cond (.seq .none .none) .none)) (.seq .none (.seq (.seq .none (.block (.loop [(4, .one .sl), (5, .one (.int .i64))] [0] (.seq (.seq .none (.cond .none .none)) (.seq (.block .none) .none))))) (.seq .none .none))))

theorem e_wherryref03_Box_List (A : Amb) (b : Option Addr) (h : Heap) (R : Value → Heap → Prop) : F_wherryref03_Box_List A b h R = semFun A P f_wherryref03_Box_List a_wherryref03_Box_List [.pointer b] h R := by kernel_rfl
theorem ok_wherryref03_Box_List {A : Amb} {b : Option Addr} {h : Heap} {R : Value → Heap → Prop} (H : F_wherryref03_Box_List A b h R) : HCalls A P f_wherryref03_Box_List #[.pointer b] h R :=
  semFun_sound mixed (e_wherryref03_Box_List A b h R ▸ H)

/-- wherry/wherryref02.Same -/
def F_wherryref02_Same (A : Amb) (a : Sl) (b : Sl) (h : Heap) (R : Value → Heap → Prop) : Prop :=
  PIf (((a.len : Nat) : Int) != ((b.len : Nat) : Int)) (
    R (.bool false) h) (
    Loop (fun K (s : Int × Unit) h1 =>
      PIf (decide (s.1 < ((a.len : Nat) : Int))) (
        Idx a.p a.len s.1 fun a1 =>
        LoadS h1 (a1.add (s.1.toNat * 1)) fun t20 =>
        Idx b.p b.len s.1 fun a2 =>
        LoadS h1 (a2.add (s.1.toNat * 1)) fun t24 =>
        PIf (!sEq t20 t24) (
          R (.bool false) h1) (
          K ((IntKind.wrap .i64 (s.1 + (1 : Int))), ()) h1)) (
        R (.bool true) h1)) (0, ()) h)

def a_wherryref02_Same : Ann := .seq .none (.seq (.seq .none (.cond (.seq .none .none) .none)) (.seq (.seq .none (.block (.loop [(5, .one (.int .i64))] [0, 1] (.seq (.seq .none (.cond .none .none)) (.seq (.block (.seq .none (.cond (.seq .none .none) .none))) .none))))) (.seq .none .none)))

theorem e_wherryref02_Same (A : Amb) (a : Sl) (b : Sl) (h : Heap) (R : Value → Heap → Prop) : F_wherryref02_Same A a b h R = semFun A P f_wherryref02_Same a_wherryref02_Same [.slice a.p a.len a.cap, .slice b.p b.len b.cap] h R := by kernel_rfl
theorem ok_wherryref02_Same {A : Amb} {a : Sl} {b : Sl} {h : Heap} {R : Value → Heap → Prop} (H : F_wherryref02_Same A a b h R) : HCalls A P f_wherryref02_Same #[.slice a.p a.len a.cap, .slice b.p b.len b.cap] h R :=
  semFun_sound mixed (e_wherryref02_Same A a b h R ▸ H)

end Go.Lf.G
