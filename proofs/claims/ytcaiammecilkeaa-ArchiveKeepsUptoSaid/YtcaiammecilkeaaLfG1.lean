/-
  The formulas of functions, printed by lift.py; each with the theorem that it is what the lift reckons of the program.
-/
import Derived.Test.YtcaiammecilkeaaLfHToN1
set_option linter.unusedVariables false
set_option maxRecDepth 100000
namespace Go.Lf.G

/-- wherry/wherrylaw20.ArchiveApart -/
def F_wherrylaw20_ArchiveApart (A : Amb) (wids : Sl) (signals : Sl) (h : Heap) (R : Value → Heap → Prop) : Prop :=
  HCalls A P f_wherrylaw20_awake #[] h fun v h1 => ∃ t17 : Bool, v = .bool t17 ∧ (
  PIf (!t17) (
    R (.bool false) h1) (
    PIf (decide (((wids.len : Nat) : Int) > (20 : Int))) (
      R (.bool true) h1) (
      HCalls A P f_box_New #[] h1 fun v1 h2 => ∃ t22 : Option Addr, v1 = .pointer t22 ∧ (
      HCalls A P f_archive_New #[.pointer t22] h2 fun v2 h3 => ∃ t23 : Option Addr, v2 = .pointer t23 ∧ (
      New h3 (.map #[] 0) fun b h4 =>
      Loop (fun K (s : Int × Unit) h5 =>
        PIf (decide (s.1 < ((wids.len : Nat) : Int))) (
          Join (fun (s1 : Unit) h6 =>
              K ((IntKind.wrap .i64 (s.1 + (1 : Int))), ()) h6) fun K1 =>
            Idx wids.p wids.len s.1 fun a =>
            LoadS h5 (a.add (s.1.toNat * 1)) fun t31 =>
            Join (fun (s2 : Int × Unit) h7 =>
                Loop (fun K3 (s3 : Sl × Int × Unit) h8 =>
                  PIf (decide (s3.2.1 < s2.1)) (
                    New h8 (.cells #[.int .i64 (IntKind.wrap .i64 (s3.2.1 + (1 : Int))), .int .i64 13, .int .i64 0, .int .i64 0, .int .i64 0, .int .i64 0, .bool false, .string (⟨#[]⟩ : ByteArray)] t_api_Event) fun b1 h9 =>
                    RunK A P (Builtin.append_ #[t_sl_api_Event, t_sl_api_Event] t_sl_api_Event #[.slice s3.1.p s3.1.len s3.1.cap, .slice (some (⟨b1, 0, none⟩ : Addr)) 1 1]) h9 fun v3 h10 => ∃ t53 : Sl, v3 = .slice t53.p t53.len t53.cap ∧ (
                    K3 ((⟨t53.p, t53.len, t53.cap⟩ : Sl), (IntKind.wrap .i64 (s3.2.1 + (1 : Int))), ()) h10)) (
                    HCalls A P f_archive_Archive_Keep #[.pointer t23, .string t31, .slice s3.1.p s3.1.len s3.1.cap] h8 fun v4 h11 => ∃ t58 : Int, v4 = .int .i64 t58 ∧ (
                    PIf (t58 == (0 : Int)) (
                      RunU A P (Instr.mapUpdate t_map_string_int (.map (some b)) (.string t31) (.int .i64 s2.1)) h11 fun h12 => (
                      K1 () h12)) (
                      Join (fun (r : Bool × Unit) h13 =>
                          PIf r.1 (
                            R (.bool false) h13) (
                            K1 () h13)) fun K4 =>
                        PIf (t58 != (1 : Int)) (
                          K4 (true, ()) h11) (
                          HCalls A P f_wherryref12_Named #[.string t31] h11 fun v5 h14 => ∃ t68 : Bool, v5 = .bool t68 ∧ (
                          K4 (t68, ()) h14)))))) ((⟨none, 0, 0⟩ : Sl), 0, ()) h7) fun K2 =>
              PIf (decide (s.1 < ((signals.len : Nat) : Int))) (
                Idx signals.p signals.len s.1 fun a1 =>
                LoadI .i64 h5 (a1.add (s.1.toNat * 1)) fun t39 =>
                K2 ((IntKind.wrap .i64 (((IntKind.wrap .i64 ((t39.tmod (30 : Int)) + (30 : Int))).tmod (30 : Int)) + (1 : Int))), ()) h5) (
                K2 (1, ()) h5)) (
          RunK A P (Instr.range t_map_string_int (.map (some b))) h5 fun v6 h15 => ∃ b2 : Nat, v6 = .pointer (some (⟨b2, 0, none⟩ : Addr)) ∧ (
          Loop (fun K5 (s4 : Unit) h16 =>
            RunK A P (Instr.next (.pointer (some (⟨b2, 0, none⟩ : Addr))) false t_) h16 fun v7 h17 => (v7 = .tuple #[.bool false] ∧ (
              R (.bool true) h17)) ∨ (∃ k u : Value, v7 = .tuple #[.bool true, k, u] ∧ (
              RunK A P (Instr.entry (.pointer (some (⟨b2, 0, none⟩ : Addr)))) h17 fun v10 h21 => ∃ k2 u2 : Value, v10 = .tuple #[k2, u2] ∧ ∃ t75_0_1 : ByteArray, k2 = .string t75_0_1 ∧ ∃ t75_1_1 : Int, u2 = .int .i64 t75_1_1 ∧ (
              HCalls A P f_archive_Archive_Events #[.pointer t23, .string t75_0_1] h21 fun v11 h22 => ∃ t81a1 : Sl, ∃ t81b1 : Int, v11 = .tuple #[.slice t81a1.p t81a1.len t81a1.cap, .int .i64 t81b1] ∧ (
              Join (fun (r2 : Bool × Unit) h23 =>
                  PIf r2.1 (
                    R (.bool false) h23) (
                    K5 () h23)) fun K7 =>
                PIf (t81b1 != (0 : Int)) (
                  K7 (true, ()) h22) (
                  K7 ((((t81a1.len : Nat) : Int) != t75_1_1), ()) h22)))))) () h15))) (0, ()) h4)))))

def a_wherrylaw20_ArchiveApart : Ann := .seq .none (.seq (.seq .none (.cond (.seq .none .none) .none)) (.seq (.seq .none (.cond (.seq .none .none) .none)) (.seq .none (.seq .none (.seq (.seq .none (.block (.loop [(27, .one (.int .i64))] [1, 5, 6, 25, 26] (.seq .none (.seq (.cond .none .none) (.seq (.blockJ [] [1, 5, 6, 25, 26, 27] (.seq .none (.seq .none (.seqJ [(9, .one (.int .i64))] [1, 5, 6, 8, 25, 26, 27] (.seq .none (.cond .none .none)) (.seq .none (.seq (.seq .none (.block (.loop [(10, .one .sl), (45, .one (.int .i64))] [1, 5, 6, 8, 9, 25, 26, 27, 44] (.seq .none (.seq (.cond .none .none) (.seq (.block (.seq .none .none)) .none)))))) (.seq .none (.seq .none (.cond .none (.seq (.reg [(69, .one .bool)] [1, 5, 6, 25, 26, 27]) (.cond (.seq .none .none) .none))))))))))) .none)))))) (.seq (.seq .none (.block (.loop [] [5, 72] (.seq .none (.seq (.cond .none .none) (.block (.seq .none (.seq .none (.seq (.reg [(91, .one .bool)] [5, 72]) (.cond (.seq .none .none) .none)))))))))) (.seq .none .none)))))))

theorem e_wherrylaw20_ArchiveApart (A : Amb) (wids : Sl) (signals : Sl) (h : Heap) (R : Value → Heap → Prop) : F_wherrylaw20_ArchiveApart A wids signals h R = semFun A P f_wherrylaw20_ArchiveApart a_wherrylaw20_ArchiveApart [.slice wids.p wids.len wids.cap, .slice signals.p signals.len signals.cap] h R := by kernel_rfl
theorem ok_wherrylaw20_ArchiveApart {A : Amb} {wids : Sl} {signals : Sl} {h : Heap} {R : Value → Heap → Prop} (H : F_wherrylaw20_ArchiveApart A wids signals h R) : HCalls A P f_wherrylaw20_ArchiveApart #[.slice wids.p wids.len wids.cap, .slice signals.p signals.len signals.cap] h R :=
  semFun_sound mixed (e_wherrylaw20_ArchiveApart A wids signals h R ▸ H)

/-- wherry/wherrylaw20.ArchiveKeeps -/
def F_wherrylaw20_ArchiveKeeps (A : Amb) (wid : ByteArray) (l : Sl) (s : ByteArray) (h : Heap) (R : Value → Heap → Prop) : Prop :=
  HCalls A P f_wherrylaw20_awake #[] h fun v h1 => ∃ t22 : Bool, v = .bool t22 ∧ (
  PIf (!t22) (
    R (.bool false) h1) (
    HCalls A P f_box_New #[] h1 fun v1 h2 => ∃ t24 : Option Addr, v1 = .pointer t24 ∧ (
    HCalls A P f_archive_New #[.pointer t24] h2 fun v2 h3 => ∃ t26 : Option Addr, v2 = .pointer t26 ∧ (
    HCalls A P f_archive_Archive_Keep #[.pointer t26, .string wid, .slice l.p l.len l.cap] h3 fun v3 h4 => ∃ t30 : Int, v3 = .int .i64 t30 ∧ (
    HCalls A P f_wherryref20_Pack #[.string wid, .slice l.p l.len l.cap] h4 fun v4 h5 => ∃ t34a : ByteArray, ∃ t34b : Int, v4 = .tuple #[.string t34a, .int .i64 t34b] ∧ (
    PIf (t30 != t34b) (
      R (.bool false) h5) (
      Join (fun (s1 : Unit) h6 =>
          HCalls A P f_wherryref12_Named #[.string wid] h6 fun v5 h7 => ∃ t80 : Bool, v5 = .bool t80 ∧ (
          PIf (!t80) (
            HCalls A P f_archive_Archive_Events #[.pointer t26, .string wid] h7 fun v6 h8 => ∃ t85a : Sl, ∃ t85b : Int, v6 = .tuple #[.slice t85a.p t85a.len t85a.cap, .int .i64 t85b] ∧ (
            R (.bool (t85b == (1 : Int))) h8)) (
            HCalls A P f_archive_File #[.string wid] h7 fun v7 h9 => ∃ t92 : ByteArray, v7 = .string t92 ∧ (
            HCalls A P f_box_Box_Delete #[.pointer t24, .string t92] h9 fun v8 h10 => ∃ t93 : Int, v8 = .int .i64 t93 ∧ (
            HCalls A P f_archive_File #[.string wid] h10 fun v9 h11 => ∃ t96 : ByteArray, v9 = .string t96 ∧ (
            HCalls A P f_box_Box_Append #[.pointer t24, .string t96, .string s] h11 fun v10 h12 => ∃ t98 : Int, v10 = .int .i64 t98 ∧ (
            HCalls A P f_archive_Archive_Events #[.pointer t26, .string wid] h12 fun v11 h13 => ∃ t102a : Sl, ∃ t102b : Int, v11 = .tuple #[.slice t102a.p t102a.len t102a.cap, .int .i64 t102b] ∧ (
            HCalls A P f_wherryref20_Unpack #[.string s] h13 fun v12 h14 => ∃ t107a : Sl, ∃ t107b : Int, v12 = .tuple #[.slice t107a.p t107a.len t107a.cap, .int .i64 t107b] ∧ (
            PIf (t102b == t107b) (
              HCalls A P f_wherryref13_Same #[.slice t102a.p t102a.len t102a.cap, .slice t107a.p t107a.len t107a.cap] h14 fun v13 h15 => ∃ t116 : Bool, v13 = .bool t116 ∧ (
              R (.bool t116) h15)) (
              R (.bool false) h14)))))))))) fun K =>
        PIf (t30 == (0 : Int)) (
          HCalls A P f_archive_File #[.string wid] h5 fun v14 h16 => ∃ t45 : ByteArray, v14 = .string t45 ∧ (
          HCalls A P f_box_Box_Read #[.pointer t24, .string t45] h16 fun v15 h17 => ∃ t46a : ByteArray, ∃ t46b : Int, v15 = .tuple #[.string t46a, .int .i64 t46b] ∧ (
          HCalls A P f_archive_Archive_Events #[.pointer t26, .string wid] h17 fun v16 h18 => ∃ t52a : Sl, ∃ t52b : Int, v16 = .tuple #[.slice t52a.p t52a.len t52a.cap, .int .i64 t52b] ∧ (
          Join (fun (r : Bool × Unit) h19 =>
              PIf r.1 (
                R (.bool false) h19) (
                K () h19)) fun K1 =>
            PIf (t46b != (0 : Int)) (
              K1 (true, ()) h18) (
              PIf (t52b != (0 : Int)) (
                K1 (true, ()) h18) (
                PIf (!sEq t46a t34a) (
                  K1 (true, ()) h18) (
                  HCalls A P f_wherryref13_Same #[.slice t52a.p t52a.len t52a.cap, .slice l.p l.len l.cap] h18 fun v17 h20 => ∃ t69 : Bool, v17 = .bool t69 ∧ (
                  PIf (!t69) (
                    K1 (true, ()) h20) (
                    HCalls A P f_archive_Archive_Keep #[.pointer t26, .string wid, .slice l.p l.len l.cap] h20 fun v18 h21 => ∃ t76 : Int, v18 = .int .i64 t76 ∧ (
                    K1 ((t76 != (0 : Int)), ()) h21)))))))))) (
          K () h5))))))))

def a_wherrylaw20_ArchiveKeeps : Ann := .seq .none (.seq (.seq .none (.cond (.seq .none .none) .none)) (.seq .none (.seq .none (.seq .none (.seq .none (.seq (.seq .none (.cond (.seq .none .none) .none)) (.seqJ [] [0, 2, 7, 8] (.seq .none (.cond (.seq .none (.seq .none (.seq (.reg [(78, .one .bool)] [0, 2, 7, 8]) (.cond (.seq .none .none) .none)))) .none)) (.seq (.seq .none (.cond (.seq .none (.seq .none .none)) .none)) (.seq .none (.seq .none (.seq .none (.seq .none (.seq .none .none)))))))))))))

theorem e_wherrylaw20_ArchiveKeeps (A : Amb) (wid : ByteArray) (l : Sl) (s : ByteArray) (h : Heap) (R : Value → Heap → Prop) : F_wherrylaw20_ArchiveKeeps A wid l s h R = semFun A P f_wherrylaw20_ArchiveKeeps a_wherrylaw20_ArchiveKeeps [.string wid, .slice l.p l.len l.cap, .string s] h R := by kernel_rfl
theorem ok_wherrylaw20_ArchiveKeeps {A : Amb} {wid : ByteArray} {l : Sl} {s : ByteArray} {h : Heap} {R : Value → Heap → Prop} (H : F_wherrylaw20_ArchiveKeeps A wid l s h R) : HCalls A P f_wherrylaw20_ArchiveKeeps #[.string wid, .slice l.p l.len l.cap, .string s] h R :=
  semFun_sound mixed (e_wherrylaw20_ArchiveKeeps A wid l s h R ▸ H)

/-- wherry/wherrylaw20.awake -/
def F_wherrylaw20_awake (A : Amb) (h : Heap) (R : Value → Heap → Prop) : Prop :=
  HCalls A P f_box_New #[] h fun v h1 => ∃ t8 : Option Addr, v = .pointer t8 ∧ (
  HCalls A P f_archive_New #[.pointer t8] h1 fun v1 h2 => ∃ t9 : Option Addr, v1 = .pointer t9 ∧ (
  New h2 (.cells #[.int .i64 2, .int .i64 2, .int .i64 0, .int .i64 0, .int .i64 0, .int .i64 0, .bool false, .string (⟨#[]⟩ : ByteArray)] t_api_Event) fun b h3 =>
  HCalls A P f_archive_Archive_Keep #[.pointer t9, .string (⟨#[119]⟩ : ByteArray), .slice (some (⟨b, 0, none⟩ : Addr)) 1 1] h3 fun v2 h4 => ∃ t14 : Int, v2 = .int .i64 t14 ∧ (
  HCalls A P f_archive_Archive_Events #[.pointer t9, .string (⟨#[119]⟩ : ByteArray)] h4 fun v3 h5 => ∃ t17a : Sl, ∃ t17b : Int, v3 = .tuple #[.slice t17a.p t17a.len t17a.cap, .int .i64 t17b] ∧ (
  HCalls A P f_archive_Archive_Events #[.pointer t9, .string (⟨#[120]⟩ : ByteArray)] h5 fun v4 h6 => ∃ t22a : Sl, ∃ t22b : Int, v4 = .tuple #[.slice t22a.p t22a.len t22a.cap, .int .i64 t22b] ∧ (
  PIf (t14 == (0 : Int)) (
    PIf (t17b == (0 : Int)) (
      PIf (t22b == (31 : Int)) (
        PIf (((t17a.len : Nat) : Int) == (1 : Int)) (
          Idx t17a.p t17a.len 0 fun a =>
          LoadI .i64 h6 (a.add ((0 : Int).toNat * 8)) fun t43_0 =>
          LoadI .i64 h6 ((a.add ((0 : Int).toNat * 8)).add 1) fun t43_1 =>
          LoadI .i64 h6 ((a.add ((0 : Int).toNat * 8)).add 2) fun t43_2 =>
          LoadI .i64 h6 ((a.add ((0 : Int).toNat * 8)).add 3) fun t43_3 =>
          LoadI .i64 h6 ((a.add ((0 : Int).toNat * 8)).add 4) fun t43_4 =>
          LoadI .i64 h6 ((a.add ((0 : Int).toNat * 8)).add 5) fun t43_5 =>
          LoadB h6 ((a.add ((0 : Int).toNat * 8)).add 6) fun t43_6 =>
          LoadS h6 ((a.add ((0 : Int).toNat * 8)).add 7) fun t43_7 =>
          Idx (some (⟨b, 0, none⟩ : Addr)) 1 0 fun a1 =>
          LoadI .i64 h6 (a1.add ((0 : Int).toNat * 8)) fun t46_0 =>
          LoadI .i64 h6 ((a1.add ((0 : Int).toNat * 8)).add 1) fun t46_1 =>
          LoadI .i64 h6 ((a1.add ((0 : Int).toNat * 8)).add 2) fun t46_2 =>
          LoadI .i64 h6 ((a1.add ((0 : Int).toNat * 8)).add 3) fun t46_3 =>
          LoadI .i64 h6 ((a1.add ((0 : Int).toNat * 8)).add 4) fun t46_4 =>
          LoadI .i64 h6 ((a1.add ((0 : Int).toNat * 8)).add 5) fun t46_5 =>
          LoadB h6 ((a1.add ((0 : Int).toNat * 8)).add 6) fun t46_6 =>
          LoadS h6 ((a1.add ((0 : Int).toNat * 8)).add 7) fun t46_7 =>
          RunK A P (do eqGuard .eql t_api_Event (.tmp 43) (.tmp 46) (.agg #[.int .i64 t43_0, .int .i64 t43_1, .int .i64 t43_2, .int .i64 t43_3, .int .i64 t43_4, .int .i64 t43_5, .bool t43_6, .string t43_7]) (.agg #[.int .i64 t46_0, .int .i64 t46_1, .int .i64 t46_2, .int .i64 t46_3, .int .i64 t46_4, .int .i64 t46_5, .bool t46_6, .string t46_7]); binOp .eql t_api_Event (.agg #[.int .i64 t43_0, .int .i64 t43_1, .int .i64 t43_2, .int .i64 t43_3, .int .i64 t43_4, .int .i64 t43_5, .bool t43_6, .string t43_7]) (.agg #[.int .i64 t46_0, .int .i64 t46_1, .int .i64 t46_2, .int .i64 t46_3, .int .i64 t46_4, .int .i64 t46_5, .bool t46_6, .string t46_7])) h6 fun v5 h7 => ∃ t47 : Bool, v5 = .bool t47 ∧ (
          PIf t47 (
            HCalls A P f_archive_File #[.string (⟨#[119, 49]⟩ : ByteArray)] h7 fun v6 h8 => ∃ t50 : ByteArray, v6 = .string t50 ∧ (
            R (.bool (sEq t50 (⟨#[122, 119, 49]⟩ : ByteArray))) h8)) (
            R (.bool false) h7))) (
          R (.bool false) h6)) (
        R (.bool false) h6)) (
      R (.bool false) h6)) (
    R (.bool false) h6))))))

def a_wherrylaw20_awake : Ann := .seq .none (.seq .none (.seq .none (.seq .none (.seq .none (.seq .none (.seq .none .none))))))

theorem e_wherrylaw20_awake (A : Amb) (h : Heap) (R : Value → Heap → Prop) : F_wherrylaw20_awake A h R = semFun A P f_wherrylaw20_awake a_wherrylaw20_awake [] h R := by kernel_rfl
theorem ok_wherrylaw20_awake {A : Amb} {h : Heap} {R : Value → Heap → Prop} (H : F_wherrylaw20_awake A h R) : HCalls A P f_wherrylaw20_awake #[] h R :=
  semFun_sound mixed (e_wherrylaw20_awake A h R ▸ H)

/-- wherry/archive.New -/
def F_archive_New (A : Amb) (b : Option Addr) (h : Heap) (R : Value → Heap → Prop) : Prop :=
  New h (.cells #[.pointer b] t_archive_Archive) fun b1 h1 =>
  R (.pointer (some (⟨b1, 0, none⟩ : Addr))) h1

def a_archive_New : Ann := .seq .none (.seq .none .none)

theorem e_archive_New (A : Amb) (b : Option Addr) (h : Heap) (R : Value → Heap → Prop) : F_archive_New A b h R = semFun A P f_archive_New a_archive_New [.pointer b] h R := by kernel_rfl
theorem ok_archive_New {A : Amb} {b : Option Addr} {h : Heap} {R : Value → Heap → Prop} (H : F_archive_New A b h R) : HCalls A P f_archive_New #[.pointer b] h R :=
  semFun_sound mixed (e_archive_New A b h R ▸ H)

/-- wherry/box.New -/
def F_box_New (A : Amb) (h : Heap) (R : Value → Heap → Prop) : Prop :=
  New h (.map #[] 0) fun b h1 =>
  New h1 (.cells #[.map (some b), .int .i64 (-1), .bool false] t_box_Box) fun b1 h2 =>
  R (.pointer (some (⟨b1, 0, none⟩ : Addr))) h2

def a_box_New : Ann := .seq .none (.seq .none .none)

theorem e_box_New (A : Amb) (h : Heap) (R : Value → Heap → Prop) : F_box_New A h R = semFun A P f_box_New a_box_New [] h R := by kernel_rfl
theorem ok_box_New {A : Amb} {h : Heap} {R : Value → Heap → Prop} (H : F_box_New A h R) : HCalls A P f_box_New #[] h R :=
  semFun_sound mixed (e_box_New A h R ▸ H)

/-- (*wherry/archive.Archive).Keep -/
def F_archive_Archive_Keep (A : Amb) (a : Option Addr) (wid : ByteArray) (l : Sl) (h : Heap) (R : Value → Heap → Prop) : Prop :=
  Join (fun (r : Bool × Unit) h1 =>
      PIf r.1 (
        R (.int .i64 1) h1) (
        HCalls A P f_event_Pack #[.slice l.p l.len l.cap] h1 fun v h2 => ∃ t23a : ByteArray, ∃ t23b : Int, v = .tuple #[.string t23a, .int .i64 t23b] ∧ (
        PIf (t23b != (0 : Int)) (
          R (.int .i64 t23b) h2) (
          HCalls A P f_frame_Wrap #[.string t23a] h2 fun v1 h3 => ∃ t31a : ByteArray, ∃ t31b : Int, v1 = .tuple #[.string t31a, .int .i64 t31b] ∧ (
          PIf (t31b != (0 : Int)) (
            R (.int .i64 t31b) h3) (
            At a fun a1 =>
            LoadP h3 a1 fun t40 =>
            HCalls A P f_archive_File #[.string wid] h3 fun v2 h4 => ∃ t42 : ByteArray, v2 = .string t42 ∧ (
            (hget h4 a1 = some (.pointer t40)) ∧
            HCalls A P f_box_Box_Delete #[.pointer t40, .string t42] h4 fun v3 h5 => ∃ t43 : Int, v3 = .int .i64 t43 ∧ (
            Join (fun (r1 : Bool × Unit) h6 =>
                PIf r1.1 (
                  R (.int .i64 t43) h6) (
                  At a fun a2 =>
                  LoadP h6 a2 fun t54 =>
                  HCalls A P f_archive_File #[.string wid] h6 fun v4 h7 => ∃ t56 : ByteArray, v4 = .string t56 ∧ (
                  (hget h7 a2 = some (.pointer t54)) ∧
                  HCalls A P f_box_Box_Append #[.pointer t54, .string t56, .string t31a] h7 fun v5 h8 => ∃ t58 : Int, v5 = .int .i64 t58 ∧ (
                  PIf (t58 != (0 : Int)) (
                    R (.int .i64 t58) h8) (
                    At a fun a3 =>
                    LoadP h8 a3 fun t65 =>
                    HCalls A P f_archive_File #[.string wid] h8 fun v6 h9 => ∃ t67 : ByteArray, v6 = .string t67 ∧ (
                    (hget h9 a3 = some (.pointer t65)) ∧
                    HCalls A P f_box_Box_Sync #[.pointer t65, .string t67] h9 fun v7 h10 => ∃ t68 : Int, v7 = .int .i64 t68 ∧ (
                    PIf (t68 != (0 : Int)) (
                      R (.int .i64 t68) h10) (
                      HCalls A P f_archive_Archive_Events #[.pointer a, .string wid] h10 fun v8 h11 => ∃ t75a : Sl, ∃ t75b : Int, v8 = .tuple #[.slice t75a.p t75a.len t75a.cap, .int .i64 t75b] ∧ (
                      PIf (t75b != (0 : Int)) (
                        R (.int .i64 t75b) h11) (
                        HCalls A P f_slices_Equal_of___api_Event_api_Event #[.slice t75a.p t75a.len t75a.cap, .slice l.p l.len l.cap] h11 fun v9 h12 => ∃ t83 : Bool, v9 = .bool t83 ∧ (
                        PIf (!t83) (
                          R (.int .i64 21) h12) (
                          R (.int .i64 0) h12)))))))))))) fun K1 =>
              PIf (t43 != (0 : Int)) (
                K1 ((t43 != (31 : Int)), ()) h5) (
                K1 (false, ()) h5))))))))) fun K =>
    PIf (a.isNone) (
      K (true, ()) h) (
      HCalls A P f_prog_Named #[.string wid] h fun v10 h13 => ∃ t18 : Bool, v10 = .bool t18 ∧ (
      K ((!t18), ()) h13))

def a_archive_Archive_Keep : Ann := .seq .none (.seq (.seq (.reg [(20, .one .bool)] [0, 1, 2]) (.cond (.seq .none .none) .none)) (.seq .none (.seq (.seq .none (.cond (.seq .none .none) .none)) (.seq .none (.seq (.seq .none (.cond (.seq .none .none) .none)) (.seq (.seq .none (.seq (.reg [(49, .one .bool)] [0, 1, 2, 9, 10]) (.cond (.seq .none .none) .none))) (.seq (.seq .none (.seq .none (.cond (.seq .none .none) .none))) (.seq (.seq .none (.seq .none (.cond (.seq .none .none) .none))) (.seq .none (.seq (.seq .none (.cond (.seq .none .none) .none)) (.seq (.seq .none (.cond (.seq .none .none) .none)) (.seq .none .none))))))))))))

theorem e_archive_Archive_Keep (A : Amb) (a : Option Addr) (wid : ByteArray) (l : Sl) (h : Heap) (R : Value → Heap → Prop) : F_archive_Archive_Keep A a wid l h R = semFun A P f_archive_Archive_Keep a_archive_Archive_Keep [.pointer a, .string wid, .slice l.p l.len l.cap] h R := by kernel_rfl
theorem ok_archive_Archive_Keep {A : Amb} {a : Option Addr} {wid : ByteArray} {l : Sl} {h : Heap} {R : Value → Heap → Prop} (H : F_archive_Archive_Keep A a wid l h R) : HCalls A P f_archive_Archive_Keep #[.pointer a, .string wid, .slice l.p l.len l.cap] h R :=
  semFun_sound mixed (e_archive_Archive_Keep A a wid l h R ▸ H)

/-- wherry/wherryref12.Named -/
def F_wherryref12_Named (A : Amb) (s : ByteArray) (h : Heap) (R : Value → Heap → Prop) : Prop :=
  Loop (fun K (s1 : Int × Unit) h1 =>
    PIf (decide (s1.1 < (s.size : Int))) (
      Join (fun (r : Bool × Unit) h2 =>
          PIf r.1 (
            R (.bool false) h2) (
            K ((IntKind.wrap .i64 (s1.1 + (1 : Int))), ()) h2)) fun K1 =>
        Chk ((0 : Int) ≤ s1.1 ∧ s1.1 < (s.size : Int)) <|
        PIf (decide ((sAt s s1.1) < (33 : Int))) (
          K1 (true, ()) h1) (
          Chk ((0 : Int) ≤ s1.1 ∧ s1.1 < (s.size : Int)) <|
          K1 ((decide ((sAt s s1.1) > (126 : Int))), ()) h1)) (
      PIf (decide ((s.size : Int) ≥ (1 : Int))) (
        R (.bool (decide ((s.size : Int) ≤ (16 : Int)))) h1) (
        R (.bool false) h1))) (0, ()) h

def a_wherryref12_Named : Ann := .seq .none (.seq (.seq .none (.block (.loop [(3, .one (.int .i64))] [0] (.seq (.seq .none (.cond .none .none)) (.seq (.block (.seq (.reg [(19, .one .bool)] [0, 3]) (.cond (.seq .none .none) .none))) .none))))) (.seq .none .none))

theorem e_wherryref12_Named (A : Amb) (s : ByteArray) (h : Heap) (R : Value → Heap → Prop) : F_wherryref12_Named A s h R = semFun A P f_wherryref12_Named a_wherryref12_Named [.string s] h R := by kernel_rfl
theorem ok_wherryref12_Named {A : Amb} {s : ByteArray} {h : Heap} {R : Value → Heap → Prop} (H : F_wherryref12_Named A s h R) : HCalls A P f_wherryref12_Named #[.string s] h R :=
  semFun_sound mixed (e_wherryref12_Named A s h R ▸ H)

/-- (*wherry/archive.Archive).Events -/
def F_archive_Archive_Events (A : Amb) (a : Option Addr) (wid : ByteArray) (h : Heap) (R : Value → Heap → Prop) : Prop :=
  Join (fun (r : Bool × Unit) h1 =>
      PIf r.1 (
        R (.tuple #[.slice none 0 0, .int .i64 1]) h1) (
        At a fun a1 =>
        LoadP h1 a1 fun t21 =>
        HCalls A P f_archive_File #[.string wid] h1 fun v h2 => ∃ t23 : ByteArray, v = .string t23 ∧ (
        (hget h2 a1 = some (.pointer t21)) ∧
        HCalls A P f_box_Box_Read #[.pointer t21, .string t23] h2 fun v1 h3 => ∃ t24a : ByteArray, ∃ t24b : Int, v1 = .tuple #[.string t24a, .int .i64 t24b] ∧ (
        PIf (t24b != (0 : Int)) (
          R (.tuple #[.slice none 0 0, .int .i64 t24b]) h3) (
          HCalls A P f_frame_Next #[.string t24a] h3 fun v2 h4 => ∃ t32a : ByteArray, ∃ t32b : ByteArray, ∃ t32c : Int, v2 = .tuple #[.string t32a, .string t32b, .int .i64 t32c] ∧ (
          PIf (t32c != (0 : Int)) (
            R (.tuple #[.slice none 0 0, .int .i64 t32c]) h4) (
            PIf (!sEq t32b (⟨#[]⟩ : ByteArray)) (
              R (.tuple #[.slice none 0 0, .int .i64 60]) h4) (
              HCalls A P f_event_Unpack #[.string t32a] h4 fun v3 h5 => ∃ t42a : Sl, ∃ t42b : Int, v3 = .tuple #[.slice t42a.p t42a.len t42a.cap, .int .i64 t42b] ∧ (
              R (.tuple #[.slice t42a.p t42a.len t42a.cap, .int .i64 t42b]) h5))))))))) fun K =>
    PIf (a.isNone) (
      K (true, ()) h) (
      HCalls A P f_prog_Named #[.string wid] h fun v4 h6 => ∃ t14 : Bool, v4 = .bool t14 ∧ (
      K ((!t14), ()) h6))

def a_archive_Archive_Events : Ann := .seq .none (.seq (.seq (.reg [(16, .one .bool)] [0, 1]) (.cond (.seq .none .none) .none)) (.seq .none (.seq (.seq .none (.cond (.seq .none .none) .none)) (.seq .none (.seq (.seq .none (.cond (.seq .none .none) .none)) (.seq (.seq .none (.cond (.seq .none .none) .none)) (.seq .none .none)))))))

theorem e_archive_Archive_Events (A : Amb) (a : Option Addr) (wid : ByteArray) (h : Heap) (R : Value → Heap → Prop) : F_archive_Archive_Events A a wid h R = semFun A P f_archive_Archive_Events a_archive_Archive_Events [.pointer a, .string wid] h R := by kernel_rfl
theorem ok_archive_Archive_Events {A : Amb} {a : Option Addr} {wid : ByteArray} {h : Heap} {R : Value → Heap → Prop} (H : F_archive_Archive_Events A a wid h R) : HCalls A P f_archive_Archive_Events #[.pointer a, .string wid] h R :=
  semFun_sound mixed (e_archive_Archive_Events A a wid h R ▸ H)

/-- wherry/wherryref20.Pack -/
def F_wherryref20_Pack (A : Amb) (wid : ByteArray) (l : Sl) (h : Heap) (R : Value → Heap → Prop) : Prop :=
  HCalls A P f_wherryref12_Named #[.string wid] h fun v h1 => ∃ t9 : Bool, v = .bool t9 ∧ (
  PIf (!t9) (
    R (.tuple #[.string (⟨#[]⟩ : ByteArray), .int .i64 1]) h1) (
    HCalls A P f_wherryref13_Pack #[.slice l.p l.len l.cap] h1 fun v1 h2 => ∃ t13a : ByteArray, ∃ t13b : Int, v1 = .tuple #[.string t13a, .int .i64 t13b] ∧ (
    PIf (t13b != (0 : Int)) (
      R (.tuple #[.string (⟨#[]⟩ : ByteArray), .int .i64 t13b]) h2) (
      HCalls A P f_wherryref02_Wrap #[.string t13a] h2 fun v2 h3 => ∃ t20a : ByteArray, ∃ t20b : Int, v2 = .tuple #[.string t20a, .int .i64 t20b] ∧ (
      R (.tuple #[.string t20a, .int .i64 t20b]) h3)))))

def a_wherryref20_Pack : Ann := .seq .none (.seq (.seq .none (.cond (.seq .none .none) .none)) (.seq .none (.seq (.seq .none (.cond (.seq .none .none) .none)) (.seq .none .none))))

theorem e_wherryref20_Pack (A : Amb) (wid : ByteArray) (l : Sl) (h : Heap) (R : Value → Heap → Prop) : F_wherryref20_Pack A wid l h R = semFun A P f_wherryref20_Pack a_wherryref20_Pack [.string wid, .slice l.p l.len l.cap] h R := by kernel_rfl
theorem ok_wherryref20_Pack {A : Amb} {wid : ByteArray} {l : Sl} {h : Heap} {R : Value → Heap → Prop} (H : F_wherryref20_Pack A wid l h R) : HCalls A P f_wherryref20_Pack #[.string wid, .slice l.p l.len l.cap] h R :=
  semFun_sound mixed (e_wherryref20_Pack A wid l h R ▸ H)

/-- (*wherry/box.Box).Read -/
def F_box_Box_Read (A : Amb) (b : Option Addr) (name : ByteArray) (h : Heap) (R : Value → Heap → Prop) : Prop :=
  HCalls A P f_box_Box_off #[.pointer b] h fun v h1 => ∃ t8 : Bool, v = .bool t8 ∧ (
  PIf t8 (
    R (.tuple #[.string (⟨#[]⟩ : ByteArray), .int .i64 30]) h1) (
    At b fun a =>
    LoadM h1 a fun t12 =>
    RunK A P (Instr.lookup t_map_string_p_box_file (.map t12) (.string name) false) h1 fun v1 h2 => ∃ t14 : Option Addr, v1 = .pointer t14 ∧ (
    PIf (t14.isNone) (
      R (.tuple #[.string (⟨#[]⟩ : ByteArray), .int .i64 31]) h2) (
      At t14 fun a1 =>
      LoadS h2 a1 fun t20 =>
      At t14 fun a2 =>
      LoadS h2 (a2.add 1) fun t24 =>
      Chk (((t20.size + t24.size : Nat) : Int) ≤ IntKind.i64.max) <|
      R (.tuple #[.string (t20 ++ t24), .int .i64 0]) h2))))

def a_box_Box_Read : Ann := .seq .none (.seq (.seq .none (.cond (.seq .none .none) .none)) (.seq .none (.seq (.seq .none (.cond (.seq .none .none) .none)) (.seq .none .none))))

theorem e_box_Box_Read (A : Amb) (b : Option Addr) (name : ByteArray) (h : Heap) (R : Value → Heap → Prop) : F_box_Box_Read A b name h R = semFun A P f_box_Box_Read a_box_Box_Read [.pointer b, .string name] h R := by kernel_rfl
theorem ok_box_Box_Read {A : Amb} {b : Option Addr} {name : ByteArray} {h : Heap} {R : Value → Heap → Prop} (H : F_box_Box_Read A b name h R) : HCalls A P f_box_Box_Read #[.pointer b, .string name] h R :=
  semFun_sound mixed (e_box_Box_Read A b name h R ▸ H)

/-- wherry/archive.File -/
def F_archive_File (A : Amb) (wid : ByteArray) (h : Heap) (R : Value → Heap → Prop) : Prop :=
  Chk ((((⟨#[122]⟩ : ByteArray).size + wid.size : Nat) : Int) ≤ IntKind.i64.max) <|
  R (.string ((⟨#[122]⟩ : ByteArray) ++ wid)) h

def a_archive_File : Ann := .seq .none (.seq .none .none)

theorem e_archive_File (A : Amb) (wid : ByteArray) (h : Heap) (R : Value → Heap → Prop) : F_archive_File A wid h R = semFun A P f_archive_File a_archive_File [.string wid] h R := by kernel_rfl
theorem ok_archive_File {A : Amb} {wid : ByteArray} {h : Heap} {R : Value → Heap → Prop} (H : F_archive_File A wid h R) : HCalls A P f_archive_File #[.string wid] h R :=
  semFun_sound mixed (e_archive_File A wid h R ▸ H)

/-- wherry/wherryref13.Same -/
def F_wherryref13_Same (A : Amb) (a : Sl) (b : Sl) (h : Heap) (R : Value → Heap → Prop) : Prop :=
  PIf (((a.len : Nat) : Int) != ((b.len : Nat) : Int)) (
    R (.bool false) h) (
    Loop (fun K (s : Int × Unit) h1 =>
      PIf (decide (s.1 < ((a.len : Nat) : Int))) (
        Idx a.p a.len s.1 fun a1 =>
        LoadI .i64 h1 (a1.add (s.1.toNat * 8)) fun t20_0 =>
        LoadI .i64 h1 ((a1.add (s.1.toNat * 8)).add 1) fun t20_1 =>
        LoadI .i64 h1 ((a1.add (s.1.toNat * 8)).add 2) fun t20_2 =>
        LoadI .i64 h1 ((a1.add (s.1.toNat * 8)).add 3) fun t20_3 =>
        LoadI .i64 h1 ((a1.add (s.1.toNat * 8)).add 4) fun t20_4 =>
        LoadI .i64 h1 ((a1.add (s.1.toNat * 8)).add 5) fun t20_5 =>
        LoadB h1 ((a1.add (s.1.toNat * 8)).add 6) fun t20_6 =>
        LoadS h1 ((a1.add (s.1.toNat * 8)).add 7) fun t20_7 =>
        Idx b.p b.len s.1 fun a2 =>
        LoadI .i64 h1 (a2.add (s.1.toNat * 8)) fun t24_0 =>
        LoadI .i64 h1 ((a2.add (s.1.toNat * 8)).add 1) fun t24_1 =>
        LoadI .i64 h1 ((a2.add (s.1.toNat * 8)).add 2) fun t24_2 =>
        LoadI .i64 h1 ((a2.add (s.1.toNat * 8)).add 3) fun t24_3 =>
        LoadI .i64 h1 ((a2.add (s.1.toNat * 8)).add 4) fun t24_4 =>
        LoadI .i64 h1 ((a2.add (s.1.toNat * 8)).add 5) fun t24_5 =>
        LoadB h1 ((a2.add (s.1.toNat * 8)).add 6) fun t24_6 =>
        LoadS h1 ((a2.add (s.1.toNat * 8)).add 7) fun t24_7 =>
        RunK A P (do eqGuard .neq t_api_Event (.tmp 20) (.tmp 24) (.agg #[.int .i64 t20_0, .int .i64 t20_1, .int .i64 t20_2, .int .i64 t20_3, .int .i64 t20_4, .int .i64 t20_5, .bool t20_6, .string t20_7]) (.agg #[.int .i64 t24_0, .int .i64 t24_1, .int .i64 t24_2, .int .i64 t24_3, .int .i64 t24_4, .int .i64 t24_5, .bool t24_6, .string t24_7]); binOp .neq t_api_Event (.agg #[.int .i64 t20_0, .int .i64 t20_1, .int .i64 t20_2, .int .i64 t20_3, .int .i64 t20_4, .int .i64 t20_5, .bool t20_6, .string t20_7]) (.agg #[.int .i64 t24_0, .int .i64 t24_1, .int .i64 t24_2, .int .i64 t24_3, .int .i64 t24_4, .int .i64 t24_5, .bool t24_6, .string t24_7])) h1 fun v h2 => ∃ t25 : Bool, v = .bool t25 ∧ (
        PIf t25 (
          R (.bool false) h2) (
          K ((IntKind.wrap .i64 (s.1 + (1 : Int))), ()) h2))) (
        R (.bool true) h1)) (0, ()) h)

def a_wherryref13_Same : Ann := .seq .none (.seq (.seq .none (.cond (.seq .none .none) .none)) (.seq (.seq .none (.block (.loop [(5, .one (.int .i64))] [0, 1] (.seq (.seq .none (.cond .none .none)) (.seq (.block (.seq .none (.cond (.seq .none .none) .none))) .none))))) (.seq .none .none)))

theorem e_wherryref13_Same (A : Amb) (a : Sl) (b : Sl) (h : Heap) (R : Value → Heap → Prop) : F_wherryref13_Same A a b h R = semFun A P f_wherryref13_Same a_wherryref13_Same [.slice a.p a.len a.cap, .slice b.p b.len b.cap] h R := by kernel_rfl
theorem ok_wherryref13_Same {A : Amb} {a : Sl} {b : Sl} {h : Heap} {R : Value → Heap → Prop} (H : F_wherryref13_Same A a b h R) : HCalls A P f_wherryref13_Same #[.slice a.p a.len a.cap, .slice b.p b.len b.cap] h R :=
  semFun_sound mixed (e_wherryref13_Same A a b h R ▸ H)

/-- (*wherry/box.Box).Delete -/
def F_box_Box_Delete (A : Amb) (b : Option Addr) (name : ByteArray) (h : Heap) (R : Value → Heap → Prop) : Prop :=
  HCalls A P f_box_Box_off #[.pointer b] h fun v h1 => ∃ t7 : Bool, v = .bool t7 ∧ (
  PIf t7 (
    R (.int .i64 30) h1) (
    At b fun a =>
    LoadM h1 a fun t12 =>
    RunK A P (Instr.lookup t_map_string_p_box_file (.map t12) (.string name) false) h1 fun v1 h2 => ∃ t14 : Option Addr, v1 = .pointer t14 ∧ (
    PIf (t14.isNone) (
      R (.int .i64 31) h2) (
      HCalls A P f_box_Box_burn #[.pointer b] h2 fun v2 h3 => ∃ t18 : Bool, v2 = .bool t18 ∧ (
      PIf (!t18) (
        R (.int .i64 30) h3) (
        At b fun a1 =>
        LoadM h3 a1 fun t23 =>
        RunK A P (Builtin.delete_ #[t_map_string_p_box_file, t_string] t_ #[.map t23, .string name]) h3 fun v3 h4 => v3 = .tuple #[] ∧ (
        R (.int .i64 0) h4)))))))

def a_box_Box_Delete : Ann := .seq .none (.seq (.block (.seq .none (.cond (.seq .none .none) (.seq .none (.cond (.seq .none .none) (.seq .none (.cond (.seq .none .none) .none))))))) (.seq .none (.seq .none .none)))

theorem e_box_Box_Delete (A : Amb) (b : Option Addr) (name : ByteArray) (h : Heap) (R : Value → Heap → Prop) : F_box_Box_Delete A b name h R = semFun A P f_box_Box_Delete a_box_Box_Delete [.pointer b, .string name] h R := by kernel_rfl
theorem ok_box_Box_Delete {A : Amb} {b : Option Addr} {name : ByteArray} {h : Heap} {R : Value → Heap → Prop} (H : F_box_Box_Delete A b name h R) : HCalls A P f_box_Box_Delete #[.pointer b, .string name] h R :=
  semFun_sound mixed (e_box_Box_Delete A b name h R ▸ H)

/-- (*wherry/box.Box).Append -/
def F_box_Box_Append (A : Amb) (b : Option Addr) (name : ByteArray) (data : ByteArray) (h : Heap) (R : Value → Heap → Prop) : Prop :=
  HCalls A P f_box_Box_off #[.pointer b] h fun v h1 => ∃ t10 : Bool, v = .bool t10 ∧ (
  PIf t10 (
    R (.int .i64 30) h1) (
    HCalls A P f_box_wrong #[.string name] h1 fun v1 h2 => ∃ t13 : Bool, v1 = .bool t13 ∧ (
    PIf t13 (
      R (.int .i64 1) h2) (
      HCalls A P f_box_Box_burn #[.pointer b] h2 fun v2 h3 => ∃ t16 : Bool, v2 = .bool t16 ∧ (
      PIf (!t16) (
        R (.int .i64 30) h3) (
        At b fun a =>
        LoadM h3 a fun t21 =>
        RunK A P (Instr.lookup t_map_string_p_box_file (.map t21) (.string name) false) h3 fun v3 h4 => ∃ t23 : Option Addr, v3 = .pointer t23 ∧ (
        Join (fun (s : (Option Addr) × Unit) h5 =>
            At s.1 fun a1 =>
            LoadS h5 (a1.add 1) fun t37 =>
            Chk (((t37.size + data.size : Nat) : Int) ≤ IntKind.i64.max) <|
            At s.1 fun a2 =>
            Store h5 (a2.add 1) (.string (t37 ++ data)) fun h6 =>
            R (.int .i64 0) h6) fun K =>
          PIf (t23.isNone) (
            New h4 (.cells #[.string (⟨#[]⟩ : ByteArray), .string (⟨#[]⟩ : ByteArray)] t_box_file) fun b1 h7 =>
            At b fun a3 =>
            LoadM h7 a3 fun t31 =>
            RunU A P (Instr.mapUpdate t_map_string_p_box_file (.map t31) (.string name) (.pointer (some (⟨b1, 0, none⟩ : Addr)))) h7 fun h8 => (
            K ((some (⟨b1, 0, none⟩ : Addr)), ()) h8)) (
            K (t23, ()) h4))))))))

def a_box_Box_Append : Ann := .seq .none (.seq (.block (.seq .none (.cond (.seq .none .none) (.seq .none (.cond (.seq .none .none) (.seq .none (.cond (.seq .none .none) .none))))))) (.seq .none (.seqJ [(7, .one .ptr)] [2] (.seq .none (.cond (.seq .none .none) .none)) (.seq .none (.seq .none .none)))))

theorem e_box_Box_Append (A : Amb) (b : Option Addr) (name : ByteArray) (data : ByteArray) (h : Heap) (R : Value → Heap → Prop) : F_box_Box_Append A b name data h R = semFun A P f_box_Box_Append a_box_Box_Append [.pointer b, .string name, .string data] h R := by kernel_rfl
theorem ok_box_Box_Append {A : Amb} {b : Option Addr} {name : ByteArray} {data : ByteArray} {h : Heap} {R : Value → Heap → Prop} (H : F_box_Box_Append A b name data h R) : HCalls A P f_box_Box_Append #[.pointer b, .string name, .string data] h R :=
  semFun_sound mixed (e_box_Box_Append A b name data h R ▸ H)

/-- wherry/wherryref20.Unpack -/
def F_wherryref20_Unpack (A : Amb) (s : ByteArray) (h : Heap) (R : Value → Heap → Prop) : Prop :=
  HCalls A P f_wherryref02_Next #[.string s] h fun v h1 => ∃ t9a : ByteArray, ∃ t9b : ByteArray, ∃ t9c : Int, v = .tuple #[.string t9a, .string t9b, .int .i64 t9c] ∧ (
  PIf (t9c != (0 : Int)) (
    R (.tuple #[.slice none 0 0, .int .i64 t9c]) h1) (
    PIf (!sEq t9b (⟨#[]⟩ : ByteArray)) (
      R (.tuple #[.slice none 0 0, .int .i64 60]) h1) (
      HCalls A P f_wherryref13_Unpack #[.string t9a] h1 fun v1 h2 => ∃ t19a : Sl, ∃ t19b : Int, v1 = .tuple #[.slice t19a.p t19a.len t19a.cap, .int .i64 t19b] ∧ (
      R (.tuple #[.slice t19a.p t19a.len t19a.cap, .int .i64 t19b]) h2))))

def a_wherryref20_Unpack : Ann := .seq .none (.seq .none (.seq (.seq .none (.cond (.seq .none .none) .none)) (.seq (.seq .none (.cond (.seq .none .none) .none)) (.seq .none .none))))

theorem e_wherryref20_Unpack (A : Amb) (s : ByteArray) (h : Heap) (R : Value → Heap → Prop) : F_wherryref20_Unpack A s h R = semFun A P f_wherryref20_Unpack a_wherryref20_Unpack [.string s] h R := by kernel_rfl
theorem ok_wherryref20_Unpack {A : Amb} {s : ByteArray} {h : Heap} {R : Value → Heap → Prop} (H : F_wherryref20_Unpack A s h R) : HCalls A P f_wherryref20_Unpack #[.string s] h R :=
  semFun_sound mixed (e_wherryref20_Unpack A s h R ▸ H)

/-- wherry/prog.Named -/
def F_prog_Named (A : Amb) (s : ByteArray) (h : Heap) (R : Value → Heap → Prop) : Prop :=
  Join (fun (r : Bool × Unit) h1 =>
      PIf r.1 (
        R (.bool false) h1) (
        Loop (fun K1 (s1 : Int × Unit) h2 =>
          PIf (decide (s1.1 < (s.size : Int))) (
            Join (fun (r1 : Bool × Unit) h3 =>
                PIf r1.1 (
                  R (.bool false) h3) (
                  K1 ((IntKind.wrap .i64 (s1.1 + (1 : Int))), ()) h3)) fun K2 =>
              Chk ((0 : Int) ≤ s1.1 ∧ s1.1 < (s.size : Int)) <|
              PIf (decide ((sAt s s1.1) ≤ (32 : Int))) (
                K2 (true, ()) h2) (
                Chk ((0 : Int) ≤ s1.1 ∧ s1.1 < (s.size : Int)) <|
                K2 ((decide ((sAt s s1.1) > (126 : Int))), ()) h2)) (
            R (.bool true) h2)) (0, ()) h1)) fun K =>
    PIf (sEq s (⟨#[]⟩ : ByteArray)) (
      K (true, ()) h) (
      K ((decide ((s.size : Int) > (16 : Int))), ()) h)

def a_prog_Named : Ann := .seq .none (.seq (.seq (.reg [(10, .one .bool)] [0]) (.cond (.seq .none .none) .none)) (.seq (.seq .none (.block (.loop [(13, .one (.int .i64))] [0, 12] (.seq .none (.seq (.cond .none .none) (.seq (.block (.seq .none (.seq (.reg [(25, .one .bool)] [0, 12, 13]) (.cond (.seq .none .none) .none)))) .none)))))) (.seq .none .none)))

theorem e_prog_Named (A : Amb) (s : ByteArray) (h : Heap) (R : Value → Heap → Prop) : F_prog_Named A s h R = semFun A P f_prog_Named a_prog_Named [.string s] h R := by kernel_rfl
theorem ok_prog_Named {A : Amb} {s : ByteArray} {h : Heap} {R : Value → Heap → Prop} (H : F_prog_Named A s h R) : HCalls A P f_prog_Named #[.string s] h R :=
  semFun_sound mixed (e_prog_Named A s h R ▸ H)

/-- wherry/event.Pack -/
def F_event_Pack (A : Amb) (l : Sl) (h : Heap) (R : Value → Heap → Prop) : Prop :=
  PIf (decide (((l.len : Nat) : Int) > (500 : Int))) (
    R (.tuple #[.string (⟨#[]⟩ : ByteArray), .int .i64 2]) h) (
    HCalls A P f_vary_Put #[.int .u64 (IntKind.wrap .u64 ((l.len : Nat) : Int))] h fun v h1 => ∃ t15 : ByteArray, v = .string t15 ∧ (
    Loop (fun K (s : ByteArray × Int × Unit) h2 =>
      PIf (decide (s.2.1 < ((l.len : Nat) : Int))) (
        Idx l.p l.len s.2.1 fun a =>
        LoadI .i64 h2 (a.add (s.2.1.toNat * 8)) fun t21_0 =>
        LoadI .i64 h2 ((a.add (s.2.1.toNat * 8)).add 1) fun t21_1 =>
        LoadI .i64 h2 ((a.add (s.2.1.toNat * 8)).add 2) fun t21_2 =>
        LoadI .i64 h2 ((a.add (s.2.1.toNat * 8)).add 3) fun t21_3 =>
        LoadI .i64 h2 ((a.add (s.2.1.toNat * 8)).add 4) fun t21_4 =>
        LoadI .i64 h2 ((a.add (s.2.1.toNat * 8)).add 5) fun t21_5 =>
        LoadB h2 ((a.add (s.2.1.toNat * 8)).add 6) fun t21_6 =>
        LoadS h2 ((a.add (s.2.1.toNat * 8)).add 7) fun t21_7 =>
        New h2 (.cells #[.int .i64 0, .int .i64 0, .int .i64 0, .int .i64 0, .int .i64 0, .int .i64 0, .bool false, .string (⟨#[]⟩ : ByteArray)] t_api_Event) fun b h3 =>
        Store h3 (⟨b, 0, none⟩ : Addr) (.int .i64 t21_0) fun h4 =>
        Store h4 ((⟨b, 0, none⟩ : Addr).add 1) (.int .i64 t21_1) fun h5 =>
        Store h5 ((⟨b, 0, none⟩ : Addr).add 2) (.int .i64 t21_2) fun h6 =>
        Store h6 ((⟨b, 0, none⟩ : Addr).add 3) (.int .i64 t21_3) fun h7 =>
        Store h7 ((⟨b, 0, none⟩ : Addr).add 4) (.int .i64 t21_4) fun h8 =>
        Store h8 ((⟨b, 0, none⟩ : Addr).add 5) (.int .i64 t21_5) fun h9 =>
        Store h9 ((⟨b, 0, none⟩ : Addr).add 6) (.bool t21_6) fun h10 =>
        Store h10 ((⟨b, 0, none⟩ : Addr).add 7) (.string t21_7) fun h11 =>
        LoadI .i64 h11 (⟨b, 0, none⟩ : Addr) fun t23_0 =>
        LoadI .i64 h11 ((⟨b, 0, none⟩ : Addr).add 1) fun t23_1 =>
        LoadI .i64 h11 ((⟨b, 0, none⟩ : Addr).add 2) fun t23_2 =>
        LoadI .i64 h11 ((⟨b, 0, none⟩ : Addr).add 3) fun t23_3 =>
        LoadI .i64 h11 ((⟨b, 0, none⟩ : Addr).add 4) fun t23_4 =>
        LoadI .i64 h11 ((⟨b, 0, none⟩ : Addr).add 5) fun t23_5 =>
        LoadB h11 ((⟨b, 0, none⟩ : Addr).add 6) fun t23_6 =>
        LoadS h11 ((⟨b, 0, none⟩ : Addr).add 7) fun t23_7 =>
        HCalls A P f_event_Encode #[.agg #[.int .i64 t23_0, .int .i64 t23_1, .int .i64 t23_2, .int .i64 t23_3, .int .i64 t23_4, .int .i64 t23_5, .bool t23_6, .string t23_7]] h11 fun v1 h12 => ∃ t24a : ByteArray, ∃ t24b : Int, v1 = .tuple #[.string t24a, .int .i64 t24b] ∧ (
        PIf (t24b != (0 : Int)) (
          R (.tuple #[.string (⟨#[]⟩ : ByteArray), .int .i64 t24b]) h12) (
          HCalls A P f_vary_Text #[.string t24a] h12 fun v2 h13 => ∃ t32 : ByteArray, v2 = .string t32 ∧ (
          Chk (((s.1.size + t32.size : Nat) : Int) ≤ IntKind.i64.max) <|
          K ((s.1 ++ t32), (IntKind.wrap .i64 (s.2.1 + (1 : Int))), ()) h13)))) (
        R (.tuple #[.string s.1, .int .i64 0]) h2)) (t15, 0, ()) h1))

def a_event_Pack : Ann := .seq .none (.seq (.seq .none (.cond (.seq .none .none) .none)) (.seq .none (.seq (.seq .none (.block (.loop [(4, .one .str), (18, .one (.int .i64))] [16, 17] (.seq .none (.seq (.cond .none .none) (.seq (.block (.seq .none (.seq .none (.seq (.seq .none (.cond (.seq .none .none) .none)) .none)))) .none)))))) (.seq .none .none))))

theorem e_event_Pack (A : Amb) (l : Sl) (h : Heap) (R : Value → Heap → Prop) : F_event_Pack A l h R = semFun A P f_event_Pack a_event_Pack [.slice l.p l.len l.cap] h R := by kernel_rfl
theorem ok_event_Pack {A : Amb} {l : Sl} {h : Heap} {R : Value → Heap → Prop} (H : F_event_Pack A l h R) : HCalls A P f_event_Pack #[.slice l.p l.len l.cap] h R :=
  semFun_sound mixed (e_event_Pack A l h R ▸ H)

/-- wherry/frame.Wrap -/
def F_frame_Wrap (A : Amb) (s : ByteArray) (h : Heap) (R : Value → Heap → Prop) : Prop :=
  PIf (decide ((s.size : Int) > (1048576 : Int))) (
    R (.tuple #[.string (⟨#[]⟩ : ByteArray), .int .i64 2]) h) (
    HCalls A P f_vary_Put #[.int .u64 (IntKind.wrap .u64 (s.size : Int))] h fun v h1 => ∃ t10 : ByteArray, v = .string t10 ∧ (
    HCalls A P f_frame_Sum #[.string s] h1 fun v1 h2 => ∃ t12 : Int, v1 = .int .u32 t12 ∧ (
    HCalls A P f_frame_mark #[.int .u32 t12] h2 fun v2 h3 => ∃ t13 : ByteArray, v2 = .string t13 ∧ (
    Chk (((t10.size + t13.size : Nat) : Int) ≤ IntKind.i64.max) <|
    Chk ((((t10 ++ t13).size + s.size : Nat) : Int) ≤ IntKind.i64.max) <|
    R (.tuple #[.string ((t10 ++ t13) ++ s), .int .i64 0]) h3))))

def a_frame_Wrap : Ann := .seq .none (.seq (.seq .none (.cond (.seq .none .none) .none)) (.seq .none .none))

theorem e_frame_Wrap (A : Amb) (s : ByteArray) (h : Heap) (R : Value → Heap → Prop) : F_frame_Wrap A s h R = semFun A P f_frame_Wrap a_frame_Wrap [.string s] h R := by kernel_rfl
theorem ok_frame_Wrap {A : Amb} {s : ByteArray} {h : Heap} {R : Value → Heap → Prop} (H : F_frame_Wrap A s h R) : HCalls A P f_frame_Wrap #[.string s] h R :=
  semFun_sound mixed (e_frame_Wrap A s h R ▸ H)

/-- (*wherry/box.Box).Sync -/
def F_box_Box_Sync (A : Amb) (b : Option Addr) (name : ByteArray) (h : Heap) (R : Value → Heap → Prop) : Prop :=
  HCalls A P f_box_Box_off #[.pointer b] h fun v h1 => ∃ t8 : Bool, v = .bool t8 ∧ (
  PIf t8 (
    R (.int .i64 30) h1) (
    At b fun a =>
    LoadM h1 a fun t13 =>
    RunK A P (Instr.lookup t_map_string_p_box_file (.map t13) (.string name) false) h1 fun v1 h2 => ∃ t15 : Option Addr, v1 = .pointer t15 ∧ (
    PIf (t15.isNone) (
      R (.int .i64 31) h2) (
      HCalls A P f_box_Box_burn #[.pointer b] h2 fun v2 h3 => ∃ t19 : Bool, v2 = .bool t19 ∧ (
      PIf (!t19) (
        R (.int .i64 30) h3) (
        At b fun a1 =>
        LoadM h3 a1 fun t24 =>
        RunK A P (Instr.lookup t_map_string_p_box_file (.map t24) (.string name) false) h3 fun v3 h4 => ∃ t26 : Option Addr, v3 = .pointer t26 ∧ (
        At t26 fun a2 =>
        LoadS h4 a2 fun t32 =>
        At t26 fun a3 =>
        LoadS h4 (a3.add 1) fun t36 =>
        Chk (((t32.size + t36.size : Nat) : Int) ≤ IntKind.i64.max) <|
        At t26 fun a4 =>
        Store h4 a4 (.string (t32 ++ t36)) fun h5 =>
        At t26 fun a5 =>
        Store h5 (a5.add 1) (.string (⟨#[]⟩ : ByteArray)) fun h6 =>
        R (.int .i64 0) h6)))))))

def a_box_Box_Sync : Ann := .seq .none (.seq (.block (.seq .none (.cond (.seq .none .none) (.seq .none (.cond (.seq .none .none) (.seq .none (.cond (.seq .none .none) .none))))))) (.seq .none (.seq .none (.seq .none .none))))

theorem e_box_Box_Sync (A : Amb) (b : Option Addr) (name : ByteArray) (h : Heap) (R : Value → Heap → Prop) : F_box_Box_Sync A b name h R = semFun A P f_box_Box_Sync a_box_Box_Sync [.pointer b, .string name] h R := by kernel_rfl
theorem ok_box_Box_Sync {A : Amb} {b : Option Addr} {name : ByteArray} {h : Heap} {R : Value → Heap → Prop} (H : F_box_Box_Sync A b name h R) : HCalls A P f_box_Box_Sync #[.pointer b, .string name] h R :=
  semFun_sound mixed (e_box_Box_Sync A b name h R ▸ H)

/-- slices.Equal[[]wherry/api.Event,wherry/api.Event] -/
def F_slices_Equal_of___api_Event_api_Event (A : Amb) (s1 : Sl) (s2 : Sl) (h : Heap) (R : Value → Heap → Prop) : Prop :=
  PIf (((s1.len : Nat) : Int) != ((s2.len : Nat) : Int)) (
    R (.bool false) h) (
    Loop (fun K (s : Int × Unit) h1 =>
      PIf (decide (s.1 < ((s1.len : Nat) : Int))) (
        Idx s1.p s1.len s.1 fun a =>
        LoadI .i64 h1 (a.add (s.1.toNat * 8)) fun t19_0 =>
        LoadI .i64 h1 ((a.add (s.1.toNat * 8)).add 1) fun t19_1 =>
        LoadI .i64 h1 ((a.add (s.1.toNat * 8)).add 2) fun t19_2 =>
        LoadI .i64 h1 ((a.add (s.1.toNat * 8)).add 3) fun t19_3 =>
        LoadI .i64 h1 ((a.add (s.1.toNat * 8)).add 4) fun t19_4 =>
        LoadI .i64 h1 ((a.add (s.1.toNat * 8)).add 5) fun t19_5 =>
        LoadB h1 ((a.add (s.1.toNat * 8)).add 6) fun t19_6 =>
        LoadS h1 ((a.add (s.1.toNat * 8)).add 7) fun t19_7 =>
        Idx s2.p s2.len s.1 fun a1 =>
        LoadI .i64 h1 (a1.add (s.1.toNat * 8)) fun t23_0 =>
        LoadI .i64 h1 ((a1.add (s.1.toNat * 8)).add 1) fun t23_1 =>
        LoadI .i64 h1 ((a1.add (s.1.toNat * 8)).add 2) fun t23_2 =>
        LoadI .i64 h1 ((a1.add (s.1.toNat * 8)).add 3) fun t23_3 =>
        LoadI .i64 h1 ((a1.add (s.1.toNat * 8)).add 4) fun t23_4 =>
        LoadI .i64 h1 ((a1.add (s.1.toNat * 8)).add 5) fun t23_5 =>
        LoadB h1 ((a1.add (s.1.toNat * 8)).add 6) fun t23_6 =>
        LoadS h1 ((a1.add (s.1.toNat * 8)).add 7) fun t23_7 =>
        RunK A P (do eqGuard .neq t_api_Event (.tmp 19) (.tmp 23) (.agg #[.int .i64 t19_0, .int .i64 t19_1, .int .i64 t19_2, .int .i64 t19_3, .int .i64 t19_4, .int .i64 t19_5, .bool t19_6, .string t19_7]) (.agg #[.int .i64 t23_0, .int .i64 t23_1, .int .i64 t23_2, .int .i64 t23_3, .int .i64 t23_4, .int .i64 t23_5, .bool t23_6, .string t23_7]); binOp .neq t_api_Event (.agg #[.int .i64 t19_0, .int .i64 t19_1, .int .i64 t19_2, .int .i64 t19_3, .int .i64 t19_4, .int .i64 t19_5, .bool t19_6, .string t19_7]) (.agg #[.int .i64 t23_0, .int .i64 t23_1, .int .i64 t23_2, .int .i64 t23_3, .int .i64 t23_4, .int .i64 t23_5, .bool t23_6, .string t23_7])) h1 fun v h2 => ∃ t24 : Bool, v = .bool t24 ∧ (
        PIf t24 (
          R (.bool false) h2) (
          K ((IntKind.wrap .i64 (s.1 + (1 : Int))), ()) h2))) (
        R (.bool true) h1)) (0, ()) h)

def a_slices_Equal_of___api_Event_api_Event : Ann := .seq .none (.seq (.seq .none (.cond (.seq .none .none) .none)) (.seq (.seq .none (.block (.loop [(13, .one (.int .i64))] [0, 1, 12] (.seq .none (.seq (.cond .none .none) (.seq (.block (.seq .none (.seq .none (.cond (.seq .none .none) .none)))) .none)))))) (.seq .none .none)))

theorem e_slices_Equal_of___api_Event_api_Event (A : Amb) (s1 : Sl) (s2 : Sl) (h : Heap) (R : Value → Heap → Prop) : F_slices_Equal_of___api_Event_api_Event A s1 s2 h R = semFun A P f_slices_Equal_of___api_Event_api_Event a_slices_Equal_of___api_Event_api_Event [.slice s1.p s1.len s1.cap, .slice s2.p s2.len s2.cap] h R := by kernel_rfl
theorem ok_slices_Equal_of___api_Event_api_Event {A : Amb} {s1 : Sl} {s2 : Sl} {h : Heap} {R : Value → Heap → Prop} (H : F_slices_Equal_of___api_Event_api_Event A s1 s2 h R) : HCalls A P f_slices_Equal_of___api_Event_api_Event #[.slice s1.p s1.len s1.cap, .slice s2.p s2.len s2.cap] h R :=
  semFun_sound mixed (e_slices_Equal_of___api_Event_api_Event A s1 s2 h R ▸ H)

/-- wherry/frame.Next -/
def F_frame_Next (A : Amb) (s : ByteArray) (h : Heap) (R : Value → Heap → Prop) : Prop :=
  HCalls A P f_vary_Get #[.string s] h fun v h1 => ∃ t12a : Int, ∃ t12b : ByteArray, ∃ t12c : Bool, v = .tuple #[.int .u64 t12a, .string t12b, .bool t12c] ∧ (
  Join (fun (r : Bool × Unit) h2 =>
      PIf r.1 (
        Loop (fun K1 (s1 : Int × Unit) h3 =>
          PIf (decide (s1.1 < (s.size : Int))) (
            Chk ((0 : Int) ≤ s1.1 ∧ s1.1 < (s.size : Int)) <|
            PIf (decide ((sAt s s1.1) < (128 : Int))) (
              R (.tuple #[.string (⟨#[]⟩ : ByteArray), .string (⟨#[]⟩ : ByteArray), .int .i64 21]) h3) (
              K1 ((IntKind.wrap .i64 (s1.1 + (1 : Int))), ()) h3)) (
            R (.tuple #[.string (⟨#[]⟩ : ByteArray), .string (⟨#[]⟩ : ByteArray), .int .i64 20]) h3)) (0, ()) h2) (
        Join (fun (r1 : Bool × Unit) h4 =>
            PIf r1.1 (
              R (.tuple #[.string (⟨#[]⟩ : ByteArray), .string (⟨#[]⟩ : ByteArray), .int .i64 21]) h4) (
              Join (fun (r2 : Bool × Unit) h5 =>
                  PIf r2.1 (
                    R (.tuple #[.string (⟨#[]⟩ : ByteArray), .string (⟨#[]⟩ : ByteArray), .int .i64 20]) h5) (
                    Chk ((0 : Int) ≤ (IntKind.wrap .u64 ((4 : Int) + t12a)) ∧ (IntKind.wrap .u64 ((4 : Int) + t12a)) ≤ ((t12b.size : Nat) : Int)) <|
                    Chk ((0 : Int) ≤ 4 ∧ 4 ≤ (((IntKind.wrap .u64 ((4 : Int) + t12a)).toNat : Nat) : Int)) <|
                    Chk ((0 : Int) ≤ 4 ∧ 4 ≤ ((t12b.size : Nat) : Int)) <|
                    HCalls A P f_frame_Sum #[.string (t12b.extract ((4 : Int).toNat) ((IntKind.wrap .u64 ((4 : Int) + t12a)).toNat))] h5 fun v1 h6 => ∃ t60 : Int, v1 = .int .u32 t60 ∧ (
                    HCalls A P f_frame_mark #[.int .u32 t60] h6 fun v2 h7 => ∃ t61 : ByteArray, v2 = .string t61 ∧ (
                    PIf (!sEq (t12b.extract 0 ((4 : Int).toNat)) t61) (
                      R (.tuple #[.string (⟨#[]⟩ : ByteArray), .string (⟨#[]⟩ : ByteArray), .int .i64 21]) h7) (
                      Chk ((0 : Int) ≤ (IntKind.wrap .u64 ((4 : Int) + t12a)) ∧ (IntKind.wrap .u64 ((4 : Int) + t12a)) ≤ ((t12b.size : Nat) : Int)) <|
                      R (.tuple #[.string (t12b.extract ((4 : Int).toNat) ((IntKind.wrap .u64 ((4 : Int) + t12a)).toNat)), .string (t12b.extract ((IntKind.wrap .u64 ((4 : Int) + t12a)).toNat) t12b.size), .int .i64 0]) h7))))) fun K3 =>
                PIf (decide ((t12b.size : Int) < (4 : Int))) (
                  K3 (true, ()) h4) (
                  K3 ((decide ((IntKind.wrap .u64 (IntKind.wrap .i64 ((t12b.size : Int) - (4 : Int)))) < t12a)), ()) h4))) fun K2 =>
          PIf (!t12c) (
            K2 (true, ()) h2) (
            K2 ((decide (t12a > (1048576 : Int))), ()) h2))) fun K =>
    PIf (!t12c) (
      K ((decide ((s.size : Int) < (10 : Int))), ()) h1) (
      K (false, ()) h1))

def a_frame_Next : Ann := .seq .none (.seq .none (.seq (.block (.seq (.reg [(16, .one .bool)] [0, 5, 6, 7]) (.cond (.seq (.seq .none (.block (.loop [(26, .one (.int .i64))] [0, 25] (.seq .none (.seq (.cond .none .none) (.seq (.block (.seq .none (.seq .none (.cond (.seq .none .none) .none)))) .none)))))) (.seq .none .none)) (.seq (.reg [(34, .one .bool)] [5, 6]) (.cond (.seq .none .none) (.seq (.reg [(41, .one .bool)] [5, 6]) (.cond (.seq .none .none) .none))))))) (.seq .none (.seq (.seq .none (.cond (.seq .none .none) .none)) (.seq .none .none)))))

theorem e_frame_Next (A : Amb) (s : ByteArray) (h : Heap) (R : Value → Heap → Prop) : F_frame_Next A s h R = semFun A P f_frame_Next a_frame_Next [.string s] h R := by kernel_rfl
theorem ok_frame_Next {A : Amb} {s : ByteArray} {h : Heap} {R : Value → Heap → Prop} (H : F_frame_Next A s h R) : HCalls A P f_frame_Next #[.string s] h R :=
  semFun_sound mixed (e_frame_Next A s h R ▸ H)

/-- wherry/event.Unpack -/
def F_event_Unpack (A : Amb) (s : ByteArray) (h : Heap) (R : Value → Heap → Prop) : Prop :=
  HCalls A P f_vary_Read #[.string s] h fun v h1 => ∃ t10 : Option Addr, v = .pointer t10 ∧ (
  HCalls A P f_vary_Reader_Int #[.pointer t10, .int .i64 500] h1 fun v1 h2 => ∃ t12 : Int, v1 = .int .i64 t12 ∧ (
  Loop (fun K (s1 : Sl × Int × Unit) h3 =>
    PIf (decide (s1.2.1 > (0 : Int))) (
      HCalls A P f_vary_Reader_Text #[.pointer t10] h3 fun v2 h4 => ∃ t19 : ByteArray, v2 = .string t19 ∧ (
      HCalls A P f_event_Decode #[.string t19] h4 fun v3 h5 => ∃ t20a_0 : Int, ∃ t20a_1 : Int, ∃ t20a_2 : Int, ∃ t20a_3 : Int, ∃ t20a_4 : Int, ∃ t20a_5 : Int, ∃ t20a_6 : Bool, ∃ t20a_7 : ByteArray, ∃ t20b : Int, v3 = .tuple #[.agg #[.int .i64 t20a_0, .int .i64 t20a_1, .int .i64 t20a_2, .int .i64 t20a_3, .int .i64 t20a_4, .int .i64 t20a_5, .bool t20a_6, .string t20a_7], .int .i64 t20b] ∧ (
      New h5 (.cells #[.int .i64 0, .int .i64 0, .int .i64 0, .int .i64 0, .int .i64 0, .int .i64 0, .bool false, .string (⟨#[]⟩ : ByteArray)] t_api_Event) fun b h6 =>
      Store h6 (⟨b, 0, none⟩ : Addr) (.int .i64 t20a_0) fun h7 =>
      Store h7 ((⟨b, 0, none⟩ : Addr).add 1) (.int .i64 t20a_1) fun h8 =>
      Store h8 ((⟨b, 0, none⟩ : Addr).add 2) (.int .i64 t20a_2) fun h9 =>
      Store h9 ((⟨b, 0, none⟩ : Addr).add 3) (.int .i64 t20a_3) fun h10 =>
      Store h10 ((⟨b, 0, none⟩ : Addr).add 4) (.int .i64 t20a_4) fun h11 =>
      Store h11 ((⟨b, 0, none⟩ : Addr).add 5) (.int .i64 t20a_5) fun h12 =>
      Store h12 ((⟨b, 0, none⟩ : Addr).add 6) (.bool t20a_6) fun h13 =>
      Store h13 ((⟨b, 0, none⟩ : Addr).add 7) (.string t20a_7) fun h14 =>
      PIf (t20b != (0 : Int)) (
        R (.tuple #[.slice none 0 0, .int .i64 60]) h14) (
        LoadI .i64 h14 (⟨b, 0, none⟩ : Addr) fun t26_0 =>
        LoadI .i64 h14 ((⟨b, 0, none⟩ : Addr).add 1) fun t26_1 =>
        LoadI .i64 h14 ((⟨b, 0, none⟩ : Addr).add 2) fun t26_2 =>
        LoadI .i64 h14 ((⟨b, 0, none⟩ : Addr).add 3) fun t26_3 =>
        LoadI .i64 h14 ((⟨b, 0, none⟩ : Addr).add 4) fun t26_4 =>
        LoadI .i64 h14 ((⟨b, 0, none⟩ : Addr).add 5) fun t26_5 =>
        LoadB h14 ((⟨b, 0, none⟩ : Addr).add 6) fun t26_6 =>
        LoadS h14 ((⟨b, 0, none⟩ : Addr).add 7) fun t26_7 =>
        New h14 (.cells #[.int .i64 t26_0, .int .i64 t26_1, .int .i64 t26_2, .int .i64 t26_3, .int .i64 t26_4, .int .i64 t26_5, .bool t26_6, .string t26_7] t_api_Event) fun b1 h15 =>
        RunK A P (Builtin.append_ #[t_sl_api_Event, t_sl_api_Event] t_sl_api_Event #[.slice s1.1.p s1.1.len s1.1.cap, .slice (some (⟨b1, 0, none⟩ : Addr)) 1 1]) h15 fun v4 h16 => ∃ t28 : Sl, v4 = .slice t28.p t28.len t28.cap ∧ (
        K ((⟨t28.p, t28.len, t28.cap⟩ : Sl), (IntKind.wrap .i64 (s1.2.1 - (1 : Int))), ()) h16))))) (
      HCalls A P f_vary_Reader_End #[.pointer t10] h3 fun v5 h17 => ∃ t30 : Bool, v5 = .bool t30 ∧ (
      PIf (!t30) (
        R (.tuple #[.slice none 0 0, .int .i64 60]) h17) (
        R (.tuple #[.slice s1.1.p s1.1.len s1.1.cap, .int .i64 0]) h17)))) ((⟨none, 0, 0⟩ : Sl), t12, ()) h2))

def a_event_Unpack : Ann := .seq .none (.seq .none (.seq .none (.seq (.seq .none (.block (.loop [(5, .one .sl), (6, .one (.int .i64))] [4] (.seq (.seq .none (.cond .none .none)) (.seq (.block (.seq .none (.seq (.seq .none (.cond (.seq .none .none) .none)) .none))) .none))))) (.seq (.seq .none (.cond (.seq .none .none) .none)) (.seq .none .none)))))

theorem e_event_Unpack (A : Amb) (s : ByteArray) (h : Heap) (R : Value → Heap → Prop) : F_event_Unpack A s h R = semFun A P f_event_Unpack a_event_Unpack [.string s] h R := by kernel_rfl
theorem ok_event_Unpack {A : Amb} {s : ByteArray} {h : Heap} {R : Value → Heap → Prop} (H : F_event_Unpack A s h R) : HCalls A P f_event_Unpack #[.string s] h R :=
  semFun_sound mixed (e_event_Unpack A s h R ▸ H)

/-- wherry/wherryref13.Pack -/
def F_wherryref13_Pack (A : Amb) (l : Sl) (h : Heap) (R : Value → Heap → Prop) : Prop :=
  PIf (decide (((l.len : Nat) : Int) > (500 : Int))) (
    R (.tuple #[.string (⟨#[]⟩ : ByteArray), .int .i64 2]) h) (
    HCalls A P f_wherryref01_Int #[.int .i64 ((l.len : Nat) : Int)] h fun v h1 => ∃ t13 : ByteArray, v = .string t13 ∧ (
    Loop (fun K (s : ByteArray × Int × Unit) h2 =>
      PIf (decide (s.2.1 < ((l.len : Nat) : Int))) (
        Idx l.p l.len s.2.1 fun a =>
        LoadI .i64 h2 (a.add (s.2.1.toNat * 8)) fun t24_0 =>
        LoadI .i64 h2 ((a.add (s.2.1.toNat * 8)).add 1) fun t24_1 =>
        LoadI .i64 h2 ((a.add (s.2.1.toNat * 8)).add 2) fun t24_2 =>
        LoadI .i64 h2 ((a.add (s.2.1.toNat * 8)).add 3) fun t24_3 =>
        LoadI .i64 h2 ((a.add (s.2.1.toNat * 8)).add 4) fun t24_4 =>
        LoadI .i64 h2 ((a.add (s.2.1.toNat * 8)).add 5) fun t24_5 =>
        LoadB h2 ((a.add (s.2.1.toNat * 8)).add 6) fun t24_6 =>
        LoadS h2 ((a.add (s.2.1.toNat * 8)).add 7) fun t24_7 =>
        HCalls A P f_wherryref13_Encode #[.agg #[.int .i64 t24_0, .int .i64 t24_1, .int .i64 t24_2, .int .i64 t24_3, .int .i64 t24_4, .int .i64 t24_5, .bool t24_6, .string t24_7]] h2 fun v1 h3 => ∃ t25a : ByteArray, ∃ t25b : Int, v1 = .tuple #[.string t25a, .int .i64 t25b] ∧ (
        PIf (t25b != (0 : Int)) (
          R (.tuple #[.string (⟨#[]⟩ : ByteArray), .int .i64 t25b]) h3) (
          HCalls A P f_wherryref01_Text #[.string t25a] h3 fun v2 h4 => ∃ t33 : ByteArray, v2 = .string t33 ∧ (
          Chk (((s.1.size + t33.size : Nat) : Int) ≤ IntKind.i64.max) <|
          K ((s.1 ++ t33), (IntKind.wrap .i64 (s.2.1 + (1 : Int))), ()) h4)))) (
        R (.tuple #[.string s.1, .int .i64 0]) h2)) (t13, 0, ()) h1))

def a_wherryref13_Pack : Ann := .seq .none (.seq (.seq .none (.cond (.seq .none .none) .none)) (.seq .none (.seq (.seq .none (.block (.loop [(4, .one .str), (5, .one (.int .i64))] [0] (.seq (.seq .none (.cond .none .none)) (.seq (.block (.seq .none (.seq (.seq .none (.cond (.seq .none .none) .none)) .none))) .none))))) (.seq .none .none))))

theorem e_wherryref13_Pack (A : Amb) (l : Sl) (h : Heap) (R : Value → Heap → Prop) : F_wherryref13_Pack A l h R = semFun A P f_wherryref13_Pack a_wherryref13_Pack [.slice l.p l.len l.cap] h R := by kernel_rfl
theorem ok_wherryref13_Pack {A : Amb} {l : Sl} {h : Heap} {R : Value → Heap → Prop} (H : F_wherryref13_Pack A l h R) : HCalls A P f_wherryref13_Pack #[.slice l.p l.len l.cap] h R :=
  semFun_sound mixed (e_wherryref13_Pack A l h R ▸ H)

/-- wherry/wherryref02.Wrap -/
def F_wherryref02_Wrap (A : Amb) (s : ByteArray) (h : Heap) (R : Value → Heap → Prop) : Prop :=
  PIf (decide ((s.size : Int) > (1048576 : Int))) (
    R (.tuple #[.string (⟨#[]⟩ : ByteArray), .int .i64 2]) h) (
    HCalls A P f_wherryref01_Int #[.int .i64 (s.size : Int)] h fun v h1 => ∃ t9 : ByteArray, v = .string t9 ∧ (
    HCalls A P f_wherryref02_four #[.string s] h1 fun v1 h2 => ∃ t11 : ByteArray, v1 = .string t11 ∧ (
    Chk (((t9.size + t11.size : Nat) : Int) ≤ IntKind.i64.max) <|
    Chk ((((t9 ++ t11).size + s.size : Nat) : Int) ≤ IntKind.i64.max) <|
    R (.tuple #[.string ((t9 ++ t11) ++ s), .int .i64 0]) h2)))

def a_wherryref02_Wrap : Ann := .seq .none (.seq (.seq .none (.cond (.seq .none .none) .none)) (.seq .none .none))

theorem e_wherryref02_Wrap (A : Amb) (s : ByteArray) (h : Heap) (R : Value → Heap → Prop) : F_wherryref02_Wrap A s h R = semFun A P f_wherryref02_Wrap a_wherryref02_Wrap [.string s] h R := by kernel_rfl
theorem ok_wherryref02_Wrap {A : Amb} {s : ByteArray} {h : Heap} {R : Value → Heap → Prop} (H : F_wherryref02_Wrap A s h R) : HCalls A P f_wherryref02_Wrap #[.string s] h R :=
  semFun_sound mixed (e_wherryref02_Wrap A s h R ▸ H)

/-- (*wherry/box.Box).off -/
def F_box_Box_off (A : Amb) (b : Option Addr) (h : Heap) (R : Value → Heap → Prop) : Prop :=
  PIf (b.isNone) (
    R (.bool true) h) (
    At b fun a =>
    LoadB h (a.add 2) fun t9 =>
    R (.bool t9) h)

def a_box_Box_off : Ann := .seq .none (.seq .none .none)

theorem e_box_Box_off (A : Amb) (b : Option Addr) (h : Heap) (R : Value → Heap → Prop) : F_box_Box_off A b h R = semFun A P f_box_Box_off a_box_Box_off [.pointer b] h R := by kernel_rfl
theorem ok_box_Box_off {A : Amb} {b : Option Addr} {h : Heap} {R : Value → Heap → Prop} (H : F_box_Box_off A b h R) : HCalls A P f_box_Box_off #[.pointer b] h R :=
  semFun_sound mixed (e_box_Box_off A b h R ▸ H)

/-- (*wherry/box.Box).burn -/
def F_box_Box_burn (A : Amb) (b : Option Addr) (h : Heap) (R : Value → Heap → Prop) : Prop :=
  At b fun a =>
  LoadI .i64 h (a.add 1) fun t6 =>
  PIf (t6 == (0 : Int)) (
    At b fun a1 =>
    Store h (a1.add 2) (.bool true) fun h1 =>
    R (.bool false) h1) (
    Join (fun (s : Unit) h2 =>
        R (.bool true) h2) fun K =>
      At b fun a2 =>
      LoadI .i64 h (a2.add 1) fun t14 =>
      PIf (decide (t14 > (0 : Int))) (
        At b fun a3 =>
        LoadI .i64 h (a3.add 1) fun t19 =>
        At b fun a4 =>
        Store h (a4.add 1) (.int .i64 (IntKind.wrap .i64 (t19 - (1 : Int)))) fun h3 =>
        K () h3) (
        K () h))

def a_box_Box_burn : Ann := .seq .none (.seq (.seq .none (.cond (.seq .none (.seq .none .none)) .none)) (.seqJ [] [] (.seq .none (.cond .none .none)) (.seq .none .none)))

theorem e_box_Box_burn (A : Amb) (b : Option Addr) (h : Heap) (R : Value → Heap → Prop) : F_box_Box_burn A b h R = semFun A P f_box_Box_burn a_box_Box_burn [.pointer b] h R := by kernel_rfl
theorem ok_box_Box_burn {A : Amb} {b : Option Addr} {h : Heap} {R : Value → Heap → Prop} (H : F_box_Box_burn A b h R) : HCalls A P f_box_Box_burn #[.pointer b] h R :=
  semFun_sound mixed (e_box_Box_burn A b h R ▸ H)

/-- wherry/box.wrong -/
def F_box_wrong (A : Amb) (name : ByteArray) (h : Heap) (R : Value → Heap → Prop) : Prop :=
  PIf (sEq name (⟨#[]⟩ : ByteArray)) (
    R (.bool true) h) (
    R (.bool (decide ((name.size : Int) > (32 : Int)))) h)

def a_box_wrong : Ann := .seq .none (.seq .none .none)

theorem e_box_wrong (A : Amb) (name : ByteArray) (h : Heap) (R : Value → Heap → Prop) : F_box_wrong A name h R = semFun A P f_box_wrong a_box_wrong [.string name] h R := by kernel_rfl
theorem ok_box_wrong {A : Amb} {name : ByteArray} {h : Heap} {R : Value → Heap → Prop} (H : F_box_wrong A name h R) : HCalls A P f_box_wrong #[.string name] h R :=
  semFun_sound mixed (e_box_wrong A name h R ▸ H)

/-- wherry/wherryref02.Next -/
def F_wherryref02_Next (A : Amb) (s : ByteArray) (h : Heap) (R : Value → Heap → Prop) : Prop :=
  Loop (fun K (s1 : Bool × Int × Unit) h1 =>
    Join (fun (r : Bool × Unit) h2 =>
        PIf r.1 (
          Join (fun (r1 : Bool × Unit) h3 =>
              K (r1.1, (IntKind.wrap .i64 (s1.2.1 + (1 : Int))), ()) h3) fun K2 =>
            PIf s1.1 (
              Chk ((0 : Int) ≤ s1.2.1 ∧ s1.2.1 < (s.size : Int)) <|
              K2 ((decide ((sAt s s1.2.1) ≥ (128 : Int))), ()) h2) (
              K2 (false, ()) h2)) (
          PIf s1.1 (
            R (.tuple #[.string (⟨#[]⟩ : ByteArray), .string (⟨#[]⟩ : ByteArray), .int .i64 20]) h2) (
            HCalls A P f_wherryref01_Get #[.string s] h2 fun v h4 => ∃ t34a : Int, ∃ t34b : Int, v = .tuple #[.int .u64 t34a, .int .i64 t34b] ∧ (
            Join (fun (r2 : Bool × Unit) h5 =>
                PIf r2.1 (
                  R (.tuple #[.string (⟨#[]⟩ : ByteArray), .string (⟨#[]⟩ : ByteArray), .int .i64 21]) h5) (
                  Chk ((0 : Int) ≤ t34b ∧ t34b ≤ ((s.size : Nat) : Int)) <|
                  Join (fun (r3 : Bool × Unit) h6 =>
                      PIf r3.1 (
                        R (.tuple #[.string (⟨#[]⟩ : ByteArray), .string (⟨#[]⟩ : ByteArray), .int .i64 20]) h6) (
                        Chk ((0 : Int) ≤ (IntKind.wrap .i64 ((4 : Int) + (IntKind.wrap .i64 t34a))) ∧ (IntKind.wrap .i64 ((4 : Int) + (IntKind.wrap .i64 t34a))) ≤ (((s.extract t34b.toNat s.size).size : Nat) : Int)) <|
                        Chk ((0 : Int) ≤ 4 ∧ 4 ≤ (((IntKind.wrap .i64 ((4 : Int) + (IntKind.wrap .i64 t34a))).toNat : Nat) : Int)) <|
                        HCalls A P f_wherryref02_four #[.string ((s.extract t34b.toNat s.size).extract ((4 : Int).toNat) ((IntKind.wrap .i64 ((4 : Int) + (IntKind.wrap .i64 t34a))).toNat))] h6 fun v1 h7 => ∃ t63 : ByteArray, v1 = .string t63 ∧ (
                        Chk ((0 : Int) ≤ 4 ∧ 4 ≤ (((s.extract t34b.toNat s.size).size : Nat) : Int)) <|
                        PIf (!sEq t63 ((s.extract t34b.toNat s.size).extract 0 ((4 : Int).toNat))) (
                          R (.tuple #[.string (⟨#[]⟩ : ByteArray), .string (⟨#[]⟩ : ByteArray), .int .i64 21]) h7) (
                          Chk ((0 : Int) ≤ (IntKind.wrap .i64 ((4 : Int) + (IntKind.wrap .i64 t34a))) ∧ (IntKind.wrap .i64 ((4 : Int) + (IntKind.wrap .i64 t34a))) ≤ (((s.extract t34b.toNat s.size).size : Nat) : Int)) <|
                          R (.tuple #[.string ((s.extract t34b.toNat s.size).extract ((4 : Int).toNat) ((IntKind.wrap .i64 ((4 : Int) + (IntKind.wrap .i64 t34a))).toNat)), .string ((s.extract t34b.toNat s.size).extract ((IntKind.wrap .i64 ((4 : Int) + (IntKind.wrap .i64 t34a))).toNat) ((s.extract t34b.toNat s.size).size)), .int .i64 0]) h7)))) fun K4 =>
                    PIf (decide (((s.extract t34b.toNat s.size).size : Int) < (4 : Int))) (
                      K4 (true, ()) h5) (
                      K4 ((decide ((IntKind.wrap .i64 (((s.extract t34b.toNat s.size).size : Int) - (4 : Int))) < (IntKind.wrap .i64 t34a))), ()) h5))) fun K3 =>
              PIf (t34b == (0 : Int)) (
                K3 (true, ()) h4) (
                K3 ((decide (t34a > (1048576 : Int))), ()) h4))))) fun K1 =>
      PIf (decide (s1.2.1 < (s.size : Int))) (
        K1 ((decide (s1.2.1 < (10 : Int))), ()) h1) (
        K1 (false, ()) h1)) ((decide ((s.size : Int) < (10 : Int))), 0, ()) h

def a_wherryref02_Next : Ann := .seq .none (.seq .none (.seq (.seq .none (.block (.loop [(5, .one .bool), (6, .one (.int .i64))] [0] (.seq (.seq (.reg [(21, .one .bool)] [0, 5, 6]) (.cond .none .none)) (.seq (.block (.reg [(5, .one .bool)] [0, 6])) .none))))) (.seq (.seq .none (.cond (.seq .none .none) .none)) (.seq .none (.seq (.seq (.reg [(42, .one .bool)] [0, 7, 8]) (.cond (.seq .none .none) .none)) (.seq .none (.seq (.seq (.reg [(56, .one .bool)] [7, 9]) (.cond (.seq .none .none) .none)) (.seq .none (.seq (.seq .none (.cond (.seq .none .none) .none)) (.seq .none .none))))))))))

theorem e_wherryref02_Next (A : Amb) (s : ByteArray) (h : Heap) (R : Value → Heap → Prop) : F_wherryref02_Next A s h R = semFun A P f_wherryref02_Next a_wherryref02_Next [.string s] h R := by kernel_rfl
theorem ok_wherryref02_Next {A : Amb} {s : ByteArray} {h : Heap} {R : Value → Heap → Prop} (H : F_wherryref02_Next A s h R) : HCalls A P f_wherryref02_Next #[.string s] h R :=
  semFun_sound mixed (e_wherryref02_Next A s h R ▸ H)

/-- wherry/wherryref13.Unpack -/
def F_wherryref13_Unpack (A : Amb) (s : ByteArray) (h : Heap) (R : Value → Heap → Prop) : Prop :=
  New h (.cells #[.string s, .bool false] t_wherryref01_Reader) fun b h1 =>
  HCalls A P f_wherryref01_Reader_Int #[.pointer (some (⟨b, 0, none⟩ : Addr)), .int .i64 500] h1 fun v h2 => ∃ t14 : Int, v = .int .i64 t14 ∧ (
  Loop (fun K (s1 : Sl × Int × Unit) h3 =>
    PIf (decide (s1.2.1 < t14)) (
      HCalls A P f_wherryref01_Reader_Text #[.pointer (some (⟨b, 0, none⟩ : Addr))] h3 fun v1 h4 => ∃ t22 : ByteArray, v1 = .string t22 ∧ (
      HCalls A P f_wherryref13_Decode #[.string t22] h4 fun v2 h5 => ∃ t23a_0 : Int, ∃ t23a_1 : Int, ∃ t23a_2 : Int, ∃ t23a_3 : Int, ∃ t23a_4 : Int, ∃ t23a_5 : Int, ∃ t23a_6 : Bool, ∃ t23a_7 : ByteArray, ∃ t23b : Int, v2 = .tuple #[.agg #[.int .i64 t23a_0, .int .i64 t23a_1, .int .i64 t23a_2, .int .i64 t23a_3, .int .i64 t23a_4, .int .i64 t23a_5, .bool t23a_6, .string t23a_7], .int .i64 t23b] ∧ (
      New h5 (.cells #[.int .i64 0, .int .i64 0, .int .i64 0, .int .i64 0, .int .i64 0, .int .i64 0, .bool false, .string (⟨#[]⟩ : ByteArray)] t_api_Event) fun b1 h6 =>
      Store h6 (⟨b1, 0, none⟩ : Addr) (.int .i64 t23a_0) fun h7 =>
      Store h7 ((⟨b1, 0, none⟩ : Addr).add 1) (.int .i64 t23a_1) fun h8 =>
      Store h8 ((⟨b1, 0, none⟩ : Addr).add 2) (.int .i64 t23a_2) fun h9 =>
      Store h9 ((⟨b1, 0, none⟩ : Addr).add 3) (.int .i64 t23a_3) fun h10 =>
      Store h10 ((⟨b1, 0, none⟩ : Addr).add 4) (.int .i64 t23a_4) fun h11 =>
      Store h11 ((⟨b1, 0, none⟩ : Addr).add 5) (.int .i64 t23a_5) fun h12 =>
      Store h12 ((⟨b1, 0, none⟩ : Addr).add 6) (.bool t23a_6) fun h13 =>
      Store h13 ((⟨b1, 0, none⟩ : Addr).add 7) (.string t23a_7) fun h14 =>
      PIf (t23b != (0 : Int)) (
        R (.tuple #[.slice none 0 0, .int .i64 60]) h14) (
        LoadI .i64 h14 (⟨b1, 0, none⟩ : Addr) fun t29_0 =>
        LoadI .i64 h14 ((⟨b1, 0, none⟩ : Addr).add 1) fun t29_1 =>
        LoadI .i64 h14 ((⟨b1, 0, none⟩ : Addr).add 2) fun t29_2 =>
        LoadI .i64 h14 ((⟨b1, 0, none⟩ : Addr).add 3) fun t29_3 =>
        LoadI .i64 h14 ((⟨b1, 0, none⟩ : Addr).add 4) fun t29_4 =>
        LoadI .i64 h14 ((⟨b1, 0, none⟩ : Addr).add 5) fun t29_5 =>
        LoadB h14 ((⟨b1, 0, none⟩ : Addr).add 6) fun t29_6 =>
        LoadS h14 ((⟨b1, 0, none⟩ : Addr).add 7) fun t29_7 =>
        New h14 (.cells #[.int .i64 t29_0, .int .i64 t29_1, .int .i64 t29_2, .int .i64 t29_3, .int .i64 t29_4, .int .i64 t29_5, .bool t29_6, .string t29_7] t_api_Event) fun b2 h15 =>
        RunK A P (Builtin.append_ #[t_sl_api_Event, t_sl_api_Event] t_sl_api_Event #[.slice s1.1.p s1.1.len s1.1.cap, .slice (some (⟨b2, 0, none⟩ : Addr)) 1 1]) h15 fun v3 h16 => ∃ t31 : Sl, v3 = .slice t31.p t31.len t31.cap ∧ (
        K ((⟨t31.p, t31.len, t31.cap⟩ : Sl), (IntKind.wrap .i64 (s1.2.1 + (1 : Int))), ()) h16))))) (
      HCalls A P f_wherryref01_Reader_End #[.pointer (some (⟨b, 0, none⟩ : Addr))] h3 fun v4 h17 => ∃ t33 : Bool, v4 = .bool t33 ∧ (
      PIf (!t33) (
        R (.tuple #[.slice none 0 0, .int .i64 60]) h17) (
        R (.tuple #[.slice s1.1.p s1.1.len s1.1.cap, .int .i64 0]) h17)))) ((⟨none, 0, 0⟩ : Sl), 0, ()) h2)

def a_wherryref13_Unpack : Ann := .seq .none (.seq .none (.seq .none (.seq .none (.seq (.seq .none (.block (.loop [(6, .one .sl), (7, .one (.int .i64))] [4, 5] (.seq (.seq .none (.cond .none .none)) (.seq (.block (.seq .none (.seq (.seq .none (.cond (.seq .none .none) .none)) .none))) .none))))) (.seq (.seq .none (.cond (.seq .none .none) .none)) (.seq .none .none))))))

theorem e_wherryref13_Unpack (A : Amb) (s : ByteArray) (h : Heap) (R : Value → Heap → Prop) : F_wherryref13_Unpack A s h R = semFun A P f_wherryref13_Unpack a_wherryref13_Unpack [.string s] h R := by kernel_rfl
theorem ok_wherryref13_Unpack {A : Amb} {s : ByteArray} {h : Heap} {R : Value → Heap → Prop} (H : F_wherryref13_Unpack A s h R) : HCalls A P f_wherryref13_Unpack #[.string s] h R :=
  semFun_sound mixed (e_wherryref13_Unpack A s h R ▸ H)

/-- wherry/vary.Put -/
def F_vary_Put (A : Amb) (n : Int) (h : Heap) (R : Value → Heap → Prop) : Prop :=
  Loop (fun K (s : Int × Sl × Unit) h1 =>
    PIf (decide (s.1 ≥ (128 : Int))) (
      New h1 (.cells #[.int .u8 (bOr .u8 (IntKind.wrap .u8 s.1) (128 : Int))] t_uint8) fun b h2 =>
      RunK A P (Builtin.append_ #[t_sl_uint8, t_sl_uint8] t_sl_uint8 #[.slice s.2.1.p s.2.1.len s.2.1.cap, .slice (some (⟨b, 0, none⟩ : Addr)) 1 1]) h2 fun v h3 => ∃ t11 : Sl, v = .slice t11.p t11.len t11.cap ∧ (
      K ((s.1.fdiv ((2 : Int) ^ (7 : Nat))), (⟨t11.p, t11.len, t11.cap⟩ : Sl), ()) h3)) (
      New h1 (.cells #[.int .u8 (IntKind.wrap .u8 s.1)] t_uint8) fun b1 h4 =>
      RunK A P (Builtin.append_ #[t_sl_uint8, t_sl_uint8] t_sl_uint8 #[.slice s.2.1.p s.2.1.len s.2.1.cap, .slice (some (⟨b1, 0, none⟩ : Addr)) 1 1]) h4 fun v1 h5 => ∃ t18 : Sl, v1 = .slice t18.p t18.len t18.cap ∧ (
      RunK A P (convert t_sl_uint8 t_string (.slice t18.p t18.len t18.cap)) h5 fun v2 h6 => ∃ t19 : ByteArray, v2 = .string t19 ∧ (
      R (.string t19) h6)))) (n, (⟨none, 0, 0⟩ : Sl), ()) h

def a_vary_Put : Ann := .seq .none (.seq .none (.seq (.block (.loop [(0, .one (.int .u64)), (3, .one .sl)] [] (.seq (.seq .none (.cond .none .none)) (.block (.seq .none .none))))) (.seq .none .none)))

theorem e_vary_Put (A : Amb) (n : Int) (h : Heap) (R : Value → Heap → Prop) : F_vary_Put A n h R = semFun A P f_vary_Put a_vary_Put [.int .u64 n] h R := by kernel_rfl
theorem ok_vary_Put {A : Amb} {n : Int} {h : Heap} {R : Value → Heap → Prop} (H : F_vary_Put A n h R) : HCalls A P f_vary_Put #[.int .u64 n] h R :=
  semFun_sound mixed (e_vary_Put A n h R ▸ H)

/-- wherry/event.Encode -/
def F_event_Encode (A : Amb) (e_0 : Int) (e_1 : Int) (e_2 : Int) (e_3 : Int) (e_4 : Int) (e_5 : Int) (e_6 : Bool) (e_7 : ByteArray) (h : Heap) (R : Value → Heap → Prop) : Prop :=
  New h (.cells #[.int .i64 e_0, .int .i64 e_1, .int .i64 e_2, .int .i64 e_3, .int .i64 e_4, .int .i64 e_5, .bool e_6, .string e_7] t_api_Event) fun b h1 =>
  LoadI .i64 h1 (⟨b, 0, none⟩ : Addr) fun t9_0 =>
  LoadI .i64 h1 ((⟨b, 0, none⟩ : Addr).add 1) fun t9_1 =>
  LoadI .i64 h1 ((⟨b, 0, none⟩ : Addr).add 2) fun t9_2 =>
  LoadI .i64 h1 ((⟨b, 0, none⟩ : Addr).add 3) fun t9_3 =>
  LoadI .i64 h1 ((⟨b, 0, none⟩ : Addr).add 4) fun t9_4 =>
  LoadI .i64 h1 ((⟨b, 0, none⟩ : Addr).add 5) fun t9_5 =>
  LoadB h1 ((⟨b, 0, none⟩ : Addr).add 6) fun t9_6 =>
  LoadS h1 ((⟨b, 0, none⟩ : Addr).add 7) fun t9_7 =>
  HCalls A P f_event_Check #[.agg #[.int .i64 t9_0, .int .i64 t9_1, .int .i64 t9_2, .int .i64 t9_3, .int .i64 t9_4, .int .i64 t9_5, .bool t9_6, .string t9_7]] h1 fun v h2 => ∃ t10 : Int, v = .int .i64 t10 ∧ (
  PIf (t10 != (0 : Int)) (
    R (.tuple #[.string (⟨#[]⟩ : ByteArray), .int .i64 t10]) h2) (
    LoadI .i64 h2 ((⟨b, 0, none⟩ : Addr).add 1) fun t16 =>
    HCalls A P f_event_fields #[.int .i64 t16] h2 fun v1 h3 => ∃ t17a : Int, ∃ t17b : Bool, v1 = .tuple #[.int .i64 t17a, .bool t17b] ∧ (
    LoadI .i64 h3 (⟨b, 0, none⟩ : Addr) fun t21 =>
    HCalls A P f_vary_Put #[.int .u64 (IntKind.wrap .u64 t21)] h3 fun v2 h4 => ∃ t23 : ByteArray, v2 = .string t23 ∧ (
    LoadI .i64 h4 ((⟨b, 0, none⟩ : Addr).add 1) fun t25 =>
    And (hget h3 ((⟨b, 0, none⟩ : Addr).add 1) = some (.int .i64 t25)) <|
    HCalls A P f_vary_Put #[.int .u64 (IntKind.wrap .u64 t25)] h4 fun v3 h5 => ∃ t27 : ByteArray, v3 = .string t27 ∧ (
    Chk (((t23.size + t27.size : Nat) : Int) ≤ IntKind.i64.max) <|
    LoadI .i64 h5 ((⟨b, 0, none⟩ : Addr).add 2) fun t30 =>
    And (hget h4 ((⟨b, 0, none⟩ : Addr).add 2) = some (.int .i64 t30)) <|
    And (hget h3 ((⟨b, 0, none⟩ : Addr).add 2) = some (.int .i64 t30)) <|
    HCalls A P f_vary_Put #[.int .u64 (IntKind.wrap .u64 t30)] h5 fun v4 h6 => ∃ t32 : ByteArray, v4 = .string t32 ∧ (
    Chk ((((t23 ++ t27).size + t32.size : Nat) : Int) ≤ IntKind.i64.max) <|
    Join (fun (s : ByteArray × Unit) h7 =>
        Join (fun (s1 : ByteArray × Unit) h8 =>
            Join (fun (s2 : ByteArray × Unit) h9 =>
                Join (fun (s3 : ByteArray × Unit) h10 =>
                    Join (fun (s4 : ByteArray × Unit) h11 =>
                        R (.tuple #[.string s4.1, .int .i64 0]) h11) fun K4 =>
                      PIf ((bAnd .i64 t17a (16 : Int)) != (0 : Int)) (
                        LoadS h10 ((⟨b, 0, none⟩ : Addr).add 7) fun t75 =>
                        HCalls A P f_vary_Text #[.string t75] h10 fun v5 h12 => ∃ t76 : ByteArray, v5 = .string t76 ∧ (
                        Chk (((s3.1.size + t76.size : Nat) : Int) ≤ IntKind.i64.max) <|
                        K4 ((s3.1 ++ t76), ()) h12)) (
                        K4 (s3.1, ()) h10)) fun K3 =>
                  PIf ((bAnd .i64 t17a (8 : Int)) != (0 : Int)) (
                    Join (fun (s5 : Int × Unit) h13 =>
                        HCalls A P f_vary_Put #[.int .u64 s5.1] h13 fun v6 h14 => ∃ t68 : ByteArray, v6 = .string t68 ∧ (
                        Chk (((s2.1.size + t68.size : Nat) : Int) ≤ IntKind.i64.max) <|
                        K3 ((s2.1 ++ t68), ()) h14)) fun K5 =>
                      LoadB h9 ((⟨b, 0, none⟩ : Addr).add 6) fun t65 =>
                      PIf t65 (
                        K5 (1, ()) h9) (
                        K5 (0, ()) h9)) (
                    K3 (s2.1, ()) h9)) fun K2 =>
              PIf ((bAnd .i64 t17a (4 : Int)) != (0 : Int)) (
                LoadI .i64 h8 ((⟨b, 0, none⟩ : Addr).add 5) fun t57 =>
                HCalls A P f_vary_Put #[.int .u64 (IntKind.wrap .u64 t57)] h8 fun v7 h15 => ∃ t59 : ByteArray, v7 = .string t59 ∧ (
                Chk (((s1.1.size + t59.size : Nat) : Int) ≤ IntKind.i64.max) <|
                K2 ((s1.1 ++ t59), ()) h15)) (
                K2 (s1.1, ()) h8)) fun K1 =>
          PIf ((bAnd .i64 t17a (2 : Int)) != (0 : Int)) (
            LoadI .i64 h7 ((⟨b, 0, none⟩ : Addr).add 4) fun t48 =>
            HCalls A P f_vary_Put #[.int .u64 (IntKind.wrap .u64 t48)] h7 fun v8 h16 => ∃ t50 : ByteArray, v8 = .string t50 ∧ (
            Chk (((s.1.size + t50.size : Nat) : Int) ≤ IntKind.i64.max) <|
            K1 ((s.1 ++ t50), ()) h16)) (
            K1 (s.1, ()) h7)) fun K =>
      PIf ((bAnd .i64 t17a (1 : Int)) != (0 : Int)) (
        LoadI .i64 h6 ((⟨b, 0, none⟩ : Addr).add 3) fun t39 =>
        HCalls A P f_vary_Put #[.int .u64 (IntKind.wrap .u64 t39)] h6 fun v9 h17 => ∃ t41 : ByteArray, v9 = .string t41 ∧ (
        Chk (((((t23 ++ t27) ++ t32).size + t41.size : Nat) : Int) ≤ IntKind.i64.max) <|
        K ((((t23 ++ t27) ++ t32) ++ t41), ()) h17)) (
        K (((t23 ++ t27) ++ t32), ()) h6)))))))

def a_event_Encode : Ann := .seq .none (.seq (.seq .none (.seq .none (.cond (.seq .none .none) .none))) (.seq .none (.seq .none (.seqJ [(7, .one .str)] [1, 5] (.seq .none (.cond .none .none)) (.seqJ [(7, .one .str)] [1, 5] (.seq .none (.cond .none .none)) (.seqJ [(7, .one .str)] [1, 5] (.seq .none (.cond .none .none)) (.seqJ [(7, .one .str)] [1, 5] (.seq .none (.cond (.seq .none (.seqJ [(8, .one (.int .u64))] [1, 5, 7] (.seq .none (.cond .none .none)) .none)) .none)) (.seqJ [(7, .one .str)] [] (.seq .none (.cond .none .none)) (.seq .none .none)))))))))

theorem e_event_Encode (A : Amb) (e_0 : Int) (e_1 : Int) (e_2 : Int) (e_3 : Int) (e_4 : Int) (e_5 : Int) (e_6 : Bool) (e_7 : ByteArray) (h : Heap) (R : Value → Heap → Prop) : F_event_Encode A e_0 e_1 e_2 e_3 e_4 e_5 e_6 e_7 h R = semFun A P f_event_Encode a_event_Encode [.agg #[.int .i64 e_0, .int .i64 e_1, .int .i64 e_2, .int .i64 e_3, .int .i64 e_4, .int .i64 e_5, .bool e_6, .string e_7]] h R := by kernel_rfl
theorem ok_event_Encode {A : Amb} {e_0 : Int} {e_1 : Int} {e_2 : Int} {e_3 : Int} {e_4 : Int} {e_5 : Int} {e_6 : Bool} {e_7 : ByteArray} {h : Heap} {R : Value → Heap → Prop} (H : F_event_Encode A e_0 e_1 e_2 e_3 e_4 e_5 e_6 e_7 h R) : HCalls A P f_event_Encode #[.agg #[.int .i64 e_0, .int .i64 e_1, .int .i64 e_2, .int .i64 e_3, .int .i64 e_4, .int .i64 e_5, .bool e_6, .string e_7]] h R :=
  semFun_sound mixed (e_event_Encode A e_0 e_1 e_2 e_3 e_4 e_5 e_6 e_7 h R ▸ H)

/-- wherry/vary.Text -/
def F_vary_Text (A : Amb) (s : ByteArray) (h : Heap) (R : Value → Heap → Prop) : Prop :=
  HCalls A P f_vary_Put #[.int .u64 (IntKind.wrap .u64 (s.size : Int))] h fun v h1 => ∃ t6 : ByteArray, v = .string t6 ∧ (
  Chk (((t6.size + s.size : Nat) : Int) ≤ IntKind.i64.max) <|
  R (.string (t6 ++ s)) h1)

def a_vary_Text : Ann := .seq .none (.seq .none .none)

theorem e_vary_Text (A : Amb) (s : ByteArray) (h : Heap) (R : Value → Heap → Prop) : F_vary_Text A s h R = semFun A P f_vary_Text a_vary_Text [.string s] h R := by kernel_rfl
theorem ok_vary_Text {A : Amb} {s : ByteArray} {h : Heap} {R : Value → Heap → Prop} (H : F_vary_Text A s h R) : HCalls A P f_vary_Text #[.string s] h R :=
  semFun_sound mixed (e_vary_Text A s h R ▸ H)

/-- wherry/frame.mark -/
def F_frame_mark (A : Amb) (n : Int) (h : Heap) (R : Value → Heap → Prop) : Prop :=
  New h (.cells #[.int .u8 (IntKind.wrap .u8 (n.fdiv ((2 : Int) ^ (24 : Nat)))), .int .u8 (IntKind.wrap .u8 (n.fdiv ((2 : Int) ^ (16 : Nat)))), .int .u8 (IntKind.wrap .u8 (n.fdiv ((2 : Int) ^ (8 : Nat)))), .int .u8 (IntKind.wrap .u8 n)] t_uint8) fun b h1 =>
  RunK A P (convert t_sl_uint8 t_string (.slice (some (⟨b, 0, none⟩ : Addr)) 4 4)) h1 fun v h2 => ∃ t15 : ByteArray, v = .string t15 ∧ (
  R (.string t15) h2)

def a_frame_mark : Ann := .seq .none (.seq .none .none)

theorem e_frame_mark (A : Amb) (n : Int) (h : Heap) (R : Value → Heap → Prop) : F_frame_mark A n h R = semFun A P f_frame_mark a_frame_mark [.int .u32 n] h R := by kernel_rfl
theorem ok_frame_mark {A : Amb} {n : Int} {h : Heap} {R : Value → Heap → Prop} (H : F_frame_mark A n h R) : HCalls A P f_frame_mark #[.int .u32 n] h R :=
  semFun_sound mixed (e_frame_mark A n h R ▸ H)

/-- wherry/frame.Sum -/
def F_frame_Sum (A : Amb) (s : ByteArray) (h : Heap) (R : Value → Heap → Prop) : Prop :=
  Loop (fun K (s1 : Int × Int × Unit) h1 =>
    PIf (decide (s1.2.1 < (s.size : Int))) (
      Chk ((0 : Int) ≤ s1.2.1 ∧ s1.2.1 < (s.size : Int)) <|
      Loop (fun K1 (s2 : Int × Int × Unit) h2 =>
        PIf (decide (s2.2.1 < (8 : Int))) (
          K1 ((bXor .u32 (s2.1.fdiv ((2 : Int) ^ (1 : Nat))) (bAnd .u32 (3988292384 : Int) (IntKind.wrap .u32 (0 - (bAnd .u32 s2.1 (1 : Int)))))), (IntKind.wrap .i64 (s2.2.1 + (1 : Int))), ()) h2) (
          K (s2.1, (IntKind.wrap .i64 (s1.2.1 + (1 : Int))), ()) h2)) ((bXor .u32 s1.1 (IntKind.wrap .u32 (sAt s s1.2.1))), 0, ()) h1) (
      R (.int .u32 (bXor .u32 (if IntKind.signed .u32 then -1 else IntKind.max .u32) s1.1)) h1)) (4294967295, 0, ()) h

def a_frame_Sum : Ann := .seq .none (.seq .none (.seq (.seq .none (.block (.loop [(3, .one (.int .u32)), (7, .one (.int .i64))] [0, 6] (.seq .none (.seq (.cond .none .none) (.seq (.block (.seq .none (.seq .none (.seq .none (.block (.loop [(3, .one (.int .u32)), (16, .one (.int .i64))] [0, 6, 7] (.seq .none (.seq (.cond .none .none) (.seq (.block .none) .none))))))))) .none)))))) (.seq .none .none)))

theorem e_frame_Sum (A : Amb) (s : ByteArray) (h : Heap) (R : Value → Heap → Prop) : F_frame_Sum A s h R = semFun A P f_frame_Sum a_frame_Sum [.string s] h R := by kernel_rfl
theorem ok_frame_Sum {A : Amb} {s : ByteArray} {h : Heap} {R : Value → Heap → Prop} (H : F_frame_Sum A s h R) : HCalls A P f_frame_Sum #[.string s] h R :=
  semFun_sound mixed (e_frame_Sum A s h R ▸ H)

/-- wherry/vary.Get -/
def F_vary_Get (A : Amb) (s : ByteArray) (h : Heap) (R : Value → Heap → Prop) : Prop :=
  Loop (fun K (s1 : Int × Int × Unit) h1 =>
    PIf (decide (s1.2.1 < (if (10 : Int) < (s.size : Int) then 10 else (s.size : Int)))) (
      Chk ((0 : Int) ≤ s1.2.1 ∧ s1.2.1 < (s.size : Int)) <|
      Join (fun (r : Bool × Unit) h2 =>
          PIf r.1 (
            R (.tuple #[.int .u64 0, .string (⟨#[]⟩ : ByteArray), .bool false]) h2) (
            Chk ((0 : Int) ≤ (IntKind.wrap .i64 ((7 : Int) * s1.2.1))) <|
            PIf (decide ((sAt s s1.2.1) < (128 : Int))) (
              Chk ((0 : Int) ≤ (IntKind.wrap .i64 (s1.2.1 + (1 : Int))) ∧ (IntKind.wrap .i64 (s1.2.1 + (1 : Int))) ≤ ((s.size : Nat) : Int)) <|
              R (.tuple #[.int .u64 (bOr .u64 s1.1 (IntKind.wrap .u64 ((IntKind.wrap .u64 (bAnd .u8 (sAt s s1.2.1) (127 : Int))) * ((2 : Int) ^ (min (IntKind.wrap .i64 ((7 : Int) * s1.2.1)).toNat (IntKind.bits .u64)))))), .string (s.extract ((IntKind.wrap .i64 (s1.2.1 + (1 : Int))).toNat) s.size), .bool true]) h2) (
              K ((bOr .u64 s1.1 (IntKind.wrap .u64 ((IntKind.wrap .u64 (bAnd .u8 (sAt s s1.2.1) (127 : Int))) * ((2 : Int) ^ (min (IntKind.wrap .i64 ((7 : Int) * s1.2.1)).toNat (IntKind.bits .u64)))))), (IntKind.wrap .i64 (s1.2.1 + (1 : Int))), ()) h2))) fun K1 =>
        PIf (s1.2.1 == (9 : Int)) (
          PIf (decide ((sAt s s1.2.1) > (1 : Int))) (
            K1 (true, ()) h1) (
            PIf (decide (s1.2.1 > (0 : Int))) (
              K1 (((sAt s s1.2.1) == (0 : Int)), ()) h1) (
              K1 (false, ()) h1))) (
          PIf (decide (s1.2.1 > (0 : Int))) (
            K1 (((sAt s s1.2.1) == (0 : Int)), ()) h1) (
            K1 (false, ()) h1))) (
      R (.tuple #[.int .u64 0, .string (⟨#[]⟩ : ByteArray), .bool false]) h1)) (0, 0, ()) h

def a_vary_Get : Ann := .seq .none (.seq .none (.seq (.seq .none (.block (.loop [(5, .one (.int .u64)), (11, .one (.int .i64))] [0, 10] (.seq .none (.seq (.cond .none .none) (.seq (.block (.seq .none (.seq .none (.seq (.seq (.reg [(30, .one .bool)] [0, 5, 6, 7, 10, 11]) (.cond (.seq .none .none) .none)) (.seq .none (.seq .none (.cond (.seq .none .none) .none))))))) .none)))))) (.seq .none .none)))

theorem e_vary_Get (A : Amb) (s : ByteArray) (h : Heap) (R : Value → Heap → Prop) : F_vary_Get A s h R = semFun A P f_vary_Get a_vary_Get [.string s] h R := by kernel_rfl
theorem ok_vary_Get {A : Amb} {s : ByteArray} {h : Heap} {R : Value → Heap → Prop} (H : F_vary_Get A s h R) : HCalls A P f_vary_Get #[.string s] h R :=
  semFun_sound mixed (e_vary_Get A s h R ▸ H)

/-- wherry/vary.Read -/
def F_vary_Read (A : Amb) (s : ByteArray) (h : Heap) (R : Value → Heap → Prop) : Prop :=
  New h (.cells #[.string s, .bool false] t_vary_Reader) fun b h1 =>
  R (.pointer (some (⟨b, 0, none⟩ : Addr))) h1

def a_vary_Read : Ann := .seq .none (.seq .none .none)

theorem e_vary_Read (A : Amb) (s : ByteArray) (h : Heap) (R : Value → Heap → Prop) : F_vary_Read A s h R = semFun A P f_vary_Read a_vary_Read [.string s] h R := by kernel_rfl
theorem ok_vary_Read {A : Amb} {s : ByteArray} {h : Heap} {R : Value → Heap → Prop} (H : F_vary_Read A s h R) : HCalls A P f_vary_Read #[.string s] h R :=
  semFun_sound mixed (e_vary_Read A s h R ▸ H)

/-- (*wherry/vary.Reader).Int -/
def F_vary_Reader_Int (A : Amb) (r : Option Addr) (most : Int) (h : Heap) (R : Value → Heap → Prop) : Prop :=
  HCalls A P f_vary_Reader_Num #[.pointer r] h fun v h1 => ∃ t7 : Int, v = .int .u64 t7 ∧ (
  Join (fun (r1 : Bool × Unit) h2 =>
      PIf r1.1 (
        R (.int .i64 0) h2) (
        Join (fun (r2 : Bool × Unit) h3 =>
            PIf r2.1 (
              At r fun a =>
              Store h3 a (.string (⟨#[]⟩ : ByteArray)) fun h4 =>
              At r fun a1 =>
              Store h4 (a1.add 1) (.bool true) fun h5 =>
              R (.int .i64 0) h5) (
              R (.int .i64 (IntKind.wrap .i64 t7)) h3)) fun K1 =>
          PIf (decide (most < (0 : Int))) (
            K1 (true, ()) h2) (
            K1 ((decide (t7 > (IntKind.wrap .u64 most))), ()) h2))) fun K =>
    PIf (r.isNone) (
      K (true, ()) h1) (
      At r fun a2 =>
      LoadB h1 (a2.add 1) fun t14 =>
      K (t14, ()) h1))

def a_vary_Reader_Int : Ann := .seq .none (.seq .none (.seq (.seq (.reg [(15, .one .bool)] [0, 1, 5]) (.cond (.seq .none .none) .none)) (.seq (.seq (.reg [(23, .one .bool)] [0, 5]) (.cond (.seq .none (.seq .none .none)) .none)) (.seq .none .none))))

theorem e_vary_Reader_Int (A : Amb) (r : Option Addr) (most : Int) (h : Heap) (R : Value → Heap → Prop) : F_vary_Reader_Int A r most h R = semFun A P f_vary_Reader_Int a_vary_Reader_Int [.pointer r, .int .i64 most] h R := by kernel_rfl
theorem ok_vary_Reader_Int {A : Amb} {r : Option Addr} {most : Int} {h : Heap} {R : Value → Heap → Prop} (H : F_vary_Reader_Int A r most h R) : HCalls A P f_vary_Reader_Int #[.pointer r, .int .i64 most] h R :=
  semFun_sound mixed (e_vary_Reader_Int A r most h R ▸ H)

/-- wherry/event.Decode -/
def F_event_Decode (A : Amb) (s : ByteArray) (h : Heap) (R : Value → Heap → Prop) : Prop :=
  New h (.cells #[.int .i64 0, .int .i64 0, .int .i64 0, .int .i64 0, .int .i64 0, .int .i64 0, .bool false, .string (⟨#[]⟩ : ByteArray)] t_api_Event) fun b h1 =>
  HCalls A P f_vary_Read #[.string s] h1 fun v h2 => ∃ t7 : Option Addr, v = .pointer t7 ∧ (
  HCalls A P f_event_read #[.pointer t7] h2 fun v1 h3 => ∃ t9_0 : Int, ∃ t9_1 : Int, ∃ t9_2 : Int, ∃ t9_3 : Int, ∃ t9_4 : Int, ∃ t9_5 : Int, ∃ t9_6 : Bool, ∃ t9_7 : ByteArray, v1 = .agg #[.int .i64 t9_0, .int .i64 t9_1, .int .i64 t9_2, .int .i64 t9_3, .int .i64 t9_4, .int .i64 t9_5, .bool t9_6, .string t9_7] ∧ (
  New h3 (.cells #[.int .i64 0, .int .i64 0, .int .i64 0, .int .i64 0, .int .i64 0, .int .i64 0, .bool false, .string (⟨#[]⟩ : ByteArray)] t_api_Event) fun b1 h4 =>
  Store h4 (⟨b1, 0, none⟩ : Addr) (.int .i64 t9_0) fun h5 =>
  Store h5 ((⟨b1, 0, none⟩ : Addr).add 1) (.int .i64 t9_1) fun h6 =>
  Store h6 ((⟨b1, 0, none⟩ : Addr).add 2) (.int .i64 t9_2) fun h7 =>
  Store h7 ((⟨b1, 0, none⟩ : Addr).add 3) (.int .i64 t9_3) fun h8 =>
  Store h8 ((⟨b1, 0, none⟩ : Addr).add 4) (.int .i64 t9_4) fun h9 =>
  Store h9 ((⟨b1, 0, none⟩ : Addr).add 5) (.int .i64 t9_5) fun h10 =>
  Store h10 ((⟨b1, 0, none⟩ : Addr).add 6) (.bool t9_6) fun h11 =>
  Store h11 ((⟨b1, 0, none⟩ : Addr).add 7) (.string t9_7) fun h12 =>
  Join (fun (r : Bool × Unit) h13 =>
      PIf r.1 (
        Store h13 (⟨b, 0, none⟩ : Addr) (.int .i64 0) fun h14 =>
        Store h14 ((⟨b, 0, none⟩ : Addr).add 1) (.int .i64 0) fun h15 =>
        Store h15 ((⟨b, 0, none⟩ : Addr).add 2) (.int .i64 0) fun h16 =>
        Store h16 ((⟨b, 0, none⟩ : Addr).add 3) (.int .i64 0) fun h17 =>
        Store h17 ((⟨b, 0, none⟩ : Addr).add 4) (.int .i64 0) fun h18 =>
        Store h18 ((⟨b, 0, none⟩ : Addr).add 5) (.int .i64 0) fun h19 =>
        Store h19 ((⟨b, 0, none⟩ : Addr).add 6) (.bool false) fun h20 =>
        Store h20 ((⟨b, 0, none⟩ : Addr).add 7) (.string (⟨#[]⟩ : ByteArray)) fun h21 =>
        LoadI .i64 h21 (⟨b, 0, none⟩ : Addr) fun res_0 =>
        LoadI .i64 h21 ((⟨b, 0, none⟩ : Addr).add 1) fun res_1 =>
        LoadI .i64 h21 ((⟨b, 0, none⟩ : Addr).add 2) fun res_2 =>
        LoadI .i64 h21 ((⟨b, 0, none⟩ : Addr).add 3) fun res_3 =>
        LoadI .i64 h21 ((⟨b, 0, none⟩ : Addr).add 4) fun res_4 =>
        LoadI .i64 h21 ((⟨b, 0, none⟩ : Addr).add 5) fun res_5 =>
        LoadB h21 ((⟨b, 0, none⟩ : Addr).add 6) fun res_6 =>
        LoadS h21 ((⟨b, 0, none⟩ : Addr).add 7) fun res_7 =>
        R (.tuple #[.agg #[.int .i64 res_0, .int .i64 res_1, .int .i64 res_2, .int .i64 res_3, .int .i64 res_4, .int .i64 res_5, .bool res_6, .string res_7], .int .i64 60]) h21) (
        LoadI .i64 h13 (⟨b1, 0, none⟩ : Addr) fun t19_0 =>
        LoadI .i64 h13 ((⟨b1, 0, none⟩ : Addr).add 1) fun t19_1 =>
        LoadI .i64 h13 ((⟨b1, 0, none⟩ : Addr).add 2) fun t19_2 =>
        LoadI .i64 h13 ((⟨b1, 0, none⟩ : Addr).add 3) fun t19_3 =>
        LoadI .i64 h13 ((⟨b1, 0, none⟩ : Addr).add 4) fun t19_4 =>
        LoadI .i64 h13 ((⟨b1, 0, none⟩ : Addr).add 5) fun t19_5 =>
        LoadB h13 ((⟨b1, 0, none⟩ : Addr).add 6) fun t19_6 =>
        LoadS h13 ((⟨b1, 0, none⟩ : Addr).add 7) fun t19_7 =>
        Store h13 (⟨b, 0, none⟩ : Addr) (.int .i64 t19_0) fun h22 =>
        Store h22 ((⟨b, 0, none⟩ : Addr).add 1) (.int .i64 t19_1) fun h23 =>
        Store h23 ((⟨b, 0, none⟩ : Addr).add 2) (.int .i64 t19_2) fun h24 =>
        Store h24 ((⟨b, 0, none⟩ : Addr).add 3) (.int .i64 t19_3) fun h25 =>
        Store h25 ((⟨b, 0, none⟩ : Addr).add 4) (.int .i64 t19_4) fun h26 =>
        Store h26 ((⟨b, 0, none⟩ : Addr).add 5) (.int .i64 t19_5) fun h27 =>
        Store h27 ((⟨b, 0, none⟩ : Addr).add 6) (.bool t19_6) fun h28 =>
        Store h28 ((⟨b, 0, none⟩ : Addr).add 7) (.string t19_7) fun h29 =>
        LoadI .i64 h29 (⟨b, 0, none⟩ : Addr) fun res_0_1 =>
        LoadI .i64 h29 ((⟨b, 0, none⟩ : Addr).add 1) fun res_1_1 =>
        LoadI .i64 h29 ((⟨b, 0, none⟩ : Addr).add 2) fun res_2_1 =>
        LoadI .i64 h29 ((⟨b, 0, none⟩ : Addr).add 3) fun res_3_1 =>
        LoadI .i64 h29 ((⟨b, 0, none⟩ : Addr).add 4) fun res_4_1 =>
        LoadI .i64 h29 ((⟨b, 0, none⟩ : Addr).add 5) fun res_5_1 =>
        LoadB h29 ((⟨b, 0, none⟩ : Addr).add 6) fun res_6_1 =>
        LoadS h29 ((⟨b, 0, none⟩ : Addr).add 7) fun res_7_1 =>
        R (.tuple #[.agg #[.int .i64 res_0_1, .int .i64 res_1_1, .int .i64 res_2_1, .int .i64 res_3_1, .int .i64 res_4_1, .int .i64 res_5_1, .bool res_6_1, .string res_7_1], .int .i64 0]) h29)) fun K =>
    HCalls A P f_vary_Reader_End #[.pointer t7] h12 fun v2 h30 => ∃ t11 : Bool, v2 = .bool t11 ∧ (
    PIf (!t11) (
      K (true, ()) h30) (
      LoadI .i64 h30 (⟨b1, 0, none⟩ : Addr) fun t14_0 =>
      LoadI .i64 h30 ((⟨b1, 0, none⟩ : Addr).add 1) fun t14_1 =>
      LoadI .i64 h30 ((⟨b1, 0, none⟩ : Addr).add 2) fun t14_2 =>
      LoadI .i64 h30 ((⟨b1, 0, none⟩ : Addr).add 3) fun t14_3 =>
      LoadI .i64 h30 ((⟨b1, 0, none⟩ : Addr).add 4) fun t14_4 =>
      LoadI .i64 h30 ((⟨b1, 0, none⟩ : Addr).add 5) fun t14_5 =>
      LoadB h30 ((⟨b1, 0, none⟩ : Addr).add 6) fun t14_6 =>
      LoadS h30 ((⟨b1, 0, none⟩ : Addr).add 7) fun t14_7 =>
      HCalls A P f_event_Check #[.agg #[.int .i64 t14_0, .int .i64 t14_1, .int .i64 t14_2, .int .i64 t14_3, .int .i64 t14_4, .int .i64 t14_5, .bool t14_6, .string t14_7]] h30 fun v3 h31 => ∃ t15 : Int, v3 = .int .i64 t15 ∧ (
      K ((t15 != (0 : Int)), ()) h31)))))

def a_event_Decode : Ann := .seq .none (.seq .none (.seq .none (.seq (.seq (.reg [(17, .one .bool)] [2, 5]) (.cond (.seq .none .none) .none)) (.seq .none .none))))

theorem e_event_Decode (A : Amb) (s : ByteArray) (h : Heap) (R : Value → Heap → Prop) : F_event_Decode A s h R = semFun A P f_event_Decode a_event_Decode [.string s] h R := by kernel_rfl
theorem ok_event_Decode {A : Amb} {s : ByteArray} {h : Heap} {R : Value → Heap → Prop} (H : F_event_Decode A s h R) : HCalls A P f_event_Decode #[.string s] h R :=
  semFun_sound mixed (e_event_Decode A s h R ▸ H)

/-- (*wherry/vary.Reader).Text -/
def F_vary_Reader_Text (A : Amb) (r : Option Addr) (h : Heap) (R : Value → Heap → Prop) : Prop :=
  HCalls A P f_vary_Reader_Num #[.pointer r] h fun v h1 => ∃ t5 : Int, v = .int .u64 t5 ∧ (
  Join (fun (r1 : Bool × Unit) h2 =>
      PIf r1.1 (
        R (.string (⟨#[]⟩ : ByteArray)) h2) (
        HCalls A P f_vary_Reader_Take #[.pointer r, .int .i64 (IntKind.wrap .i64 (if (1099511627776 : Int) < t5 then 1099511627776 else t5))] h2 fun v1 h3 => ∃ t18 : ByteArray, v1 = .string t18 ∧ (
        R (.string t18) h3))) fun K =>
    PIf (r.isNone) (
      K (true, ()) h1) (
      At r fun a =>
      LoadB h1 (a.add 1) fun t12 =>
      K (t12, ()) h1))

def a_vary_Reader_Text : Ann := .seq .none (.seq .none (.seq (.seq (.reg [(13, .one .bool)] [0, 3]) (.cond (.seq .none .none) .none)) (.seq .none .none)))

theorem e_vary_Reader_Text (A : Amb) (r : Option Addr) (h : Heap) (R : Value → Heap → Prop) : F_vary_Reader_Text A r h R = semFun A P f_vary_Reader_Text a_vary_Reader_Text [.pointer r] h R := by kernel_rfl
theorem ok_vary_Reader_Text {A : Amb} {r : Option Addr} {h : Heap} {R : Value → Heap → Prop} (H : F_vary_Reader_Text A r h R) : HCalls A P f_vary_Reader_Text #[.pointer r] h R :=
  semFun_sound mixed (e_vary_Reader_Text A r h R ▸ H)

/-- (*wherry/vary.Reader).End -/
def F_vary_Reader_End (A : Amb) (r : Option Addr) (h : Heap) (R : Value → Heap → Prop) : Prop :=
  PIf (!r.isNone) (
    At r fun a =>
    LoadB h (a.add 1) fun t9 =>
    PIf (!t9) (
      At r fun a1 =>
      LoadS h a1 fun t16 =>
      R (.bool (sEq t16 (⟨#[]⟩ : ByteArray))) h) (
      R (.bool false) h)) (
    R (.bool false) h)

def a_vary_Reader_End : Ann := .seq .none (.seq .none .none)

theorem e_vary_Reader_End (A : Amb) (r : Option Addr) (h : Heap) (R : Value → Heap → Prop) : F_vary_Reader_End A r h R = semFun A P f_vary_Reader_End a_vary_Reader_End [.pointer r] h R := by kernel_rfl
theorem ok_vary_Reader_End {A : Amb} {r : Option Addr} {h : Heap} {R : Value → Heap → Prop} (H : F_vary_Reader_End A r h R) : HCalls A P f_vary_Reader_End #[.pointer r] h R :=
  semFun_sound mixed (e_vary_Reader_End A r h R ▸ H)

/-- wherry/wherryref01.Int -/
def F_wherryref01_Int (A : Amb) (n : Int) (h : Heap) (R : Value → Heap → Prop) : Prop :=
  HCalls A P f_wherryref01_Put #[.int .u64 (IntKind.wrap .u64 n)] h fun v h1 => ∃ t5 : ByteArray, v = .string t5 ∧ (
  R (.string t5) h1)

def a_wherryref01_Int : Ann := .seq .none (.seq .none .none)

theorem e_wherryref01_Int (A : Amb) (n : Int) (h : Heap) (R : Value → Heap → Prop) : F_wherryref01_Int A n h R = semFun A P f_wherryref01_Int a_wherryref01_Int [.int .i64 n] h R := by kernel_rfl
theorem ok_wherryref01_Int {A : Amb} {n : Int} {h : Heap} {R : Value → Heap → Prop} (H : F_wherryref01_Int A n h R) : HCalls A P f_wherryref01_Int #[.int .i64 n] h R :=
  semFun_sound mixed (e_wherryref01_Int A n h R ▸ H)

/-- wherry/wherryref13.Encode -/
def F_wherryref13_Encode (A : Amb) (e_0 : Int) (e_1 : Int) (e_2 : Int) (e_3 : Int) (e_4 : Int) (e_5 : Int) (e_6 : Bool) (e_7 : ByteArray) (h : Heap) (R : Value → Heap → Prop) : Prop :=
  New h (.cells #[.int .i64 e_0, .int .i64 e_1, .int .i64 e_2, .int .i64 e_3, .int .i64 e_4, .int .i64 e_5, .bool e_6, .string e_7] t_api_Event) fun b h1 =>
  LoadI .i64 h1 (⟨b, 0, none⟩ : Addr) fun t8_0 =>
  LoadI .i64 h1 ((⟨b, 0, none⟩ : Addr).add 1) fun t8_1 =>
  LoadI .i64 h1 ((⟨b, 0, none⟩ : Addr).add 2) fun t8_2 =>
  LoadI .i64 h1 ((⟨b, 0, none⟩ : Addr).add 3) fun t8_3 =>
  LoadI .i64 h1 ((⟨b, 0, none⟩ : Addr).add 4) fun t8_4 =>
  LoadI .i64 h1 ((⟨b, 0, none⟩ : Addr).add 5) fun t8_5 =>
  LoadB h1 ((⟨b, 0, none⟩ : Addr).add 6) fun t8_6 =>
  LoadS h1 ((⟨b, 0, none⟩ : Addr).add 7) fun t8_7 =>
  HCalls A P f_wherryref13_Right #[.agg #[.int .i64 t8_0, .int .i64 t8_1, .int .i64 t8_2, .int .i64 t8_3, .int .i64 t8_4, .int .i64 t8_5, .bool t8_6, .string t8_7]] h1 fun v h2 => ∃ t9 : Bool, v = .bool t9 ∧ (
  PIf (!t9) (
    R (.tuple #[.string (⟨#[]⟩ : ByteArray), .int .i64 120]) h2) (
    LoadI .i64 h2 ((⟨b, 0, none⟩ : Addr).add 1) fun t13 =>
    HCalls A P f_wherryref13_fields #[.int .i64 t13] h2 fun v1 h3 => ∃ t14a : ByteArray, ∃ t14b : Bool, v1 = .tuple #[.string t14a, .bool t14b] ∧ (
    LoadI .i64 h3 (⟨b, 0, none⟩ : Addr) fun t18 =>
    HCalls A P f_wherryref01_Int #[.int .i64 t18] h3 fun v2 h4 => ∃ t19 : ByteArray, v2 = .string t19 ∧ (
    LoadI .i64 h4 ((⟨b, 0, none⟩ : Addr).add 1) fun t21 =>
    And (hget h3 ((⟨b, 0, none⟩ : Addr).add 1) = some (.int .i64 t21)) <|
    HCalls A P f_wherryref01_Int #[.int .i64 t21] h4 fun v3 h5 => ∃ t22 : ByteArray, v3 = .string t22 ∧ (
    Chk (((t19.size + t22.size : Nat) : Int) ≤ IntKind.i64.max) <|
    LoadI .i64 h5 ((⟨b, 0, none⟩ : Addr).add 2) fun t25 =>
    And (hget h4 ((⟨b, 0, none⟩ : Addr).add 2) = some (.int .i64 t25)) <|
    And (hget h3 ((⟨b, 0, none⟩ : Addr).add 2) = some (.int .i64 t25)) <|
    HCalls A P f_wherryref01_Int #[.int .i64 t25] h5 fun v4 h6 => ∃ t26 : ByteArray, v4 = .string t26 ∧ (
    Chk ((((t19 ++ t22).size + t26.size : Nat) : Int) ≤ IntKind.i64.max) <|
    Loop (fun K (s : ByteArray × Int × Unit) h7 =>
      PIf (decide (s.2.1 < (t14a.size : Int))) (
        Chk ((0 : Int) ≤ s.2.1 ∧ s.2.1 < (t14a.size : Int)) <|
        Join (fun (s1 : ByteArray × Unit) h8 =>
            K (s1.1, (IntKind.wrap .i64 (s.2.1 + (1 : Int))), ()) h8) fun K1 =>
          PIf ((sAt t14a s.2.1) == (114 : Int)) (
            LoadI .i64 h7 ((⟨b, 0, none⟩ : Addr).add 3) fun t46 =>
            HCalls A P f_wherryref01_Int #[.int .i64 t46] h7 fun v5 h9 => ∃ t47 : ByteArray, v5 = .string t47 ∧ (
            Chk (((s.1.size + t47.size : Nat) : Int) ≤ IntKind.i64.max) <|
            K1 ((s.1 ++ t47), ()) h9)) (
            PIf ((sAt t14a s.2.1) == (115 : Int)) (
              LoadI .i64 h7 ((⟨b, 0, none⟩ : Addr).add 4) fun t53 =>
              HCalls A P f_wherryref01_Int #[.int .i64 t53] h7 fun v6 h10 => ∃ t54 : ByteArray, v6 = .string t54 ∧ (
              Chk (((s.1.size + t54.size : Nat) : Int) ≤ IntKind.i64.max) <|
              K1 ((s.1 ++ t54), ()) h10)) (
              PIf ((sAt t14a s.2.1) == (116 : Int)) (
                LoadI .i64 h7 ((⟨b, 0, none⟩ : Addr).add 5) fun t60 =>
                HCalls A P f_wherryref01_Int #[.int .i64 t60] h7 fun v7 h11 => ∃ t61 : ByteArray, v7 = .string t61 ∧ (
                Chk (((s.1.size + t61.size : Nat) : Int) ≤ IntKind.i64.max) <|
                K1 ((s.1 ++ t61), ()) h11)) (
                PIf ((sAt t14a s.2.1) == (117 : Int)) (
                  LoadB h7 ((⟨b, 0, none⟩ : Addr).add 6) fun t66 =>
                  PIf t66 (
                    HCalls A P f_wherryref01_Int #[.int .i64 1] h7 fun v8 h12 => ∃ t68 : ByteArray, v8 = .string t68 ∧ (
                    Chk (((s.1.size + t68.size : Nat) : Int) ≤ IntKind.i64.max) <|
                    K1 ((s.1 ++ t68), ()) h12)) (
                    HCalls A P f_wherryref01_Int #[.int .i64 0] h7 fun v9 h13 => ∃ t71 : ByteArray, v9 = .string t71 ∧ (
                    Chk (((s.1.size + t71.size : Nat) : Int) ≤ IntKind.i64.max) <|
                    K1 ((s.1 ++ t71), ()) h13))) (
                  LoadS h7 ((⟨b, 0, none⟩ : Addr).add 7) fun t39 =>
                  HCalls A P f_wherryref01_Text #[.string t39] h7 fun v10 h14 => ∃ t40 : ByteArray, v10 = .string t40 ∧ (
                  Chk (((s.1.size + t40.size : Nat) : Int) ≤ IntKind.i64.max) <|
                  K1 ((s.1 ++ t40), ()) h14)))))) (
        R (.tuple #[.string s.1, .int .i64 0]) h7)) (((t19 ++ t22) ++ t26), 0, ()) h6))))))

def a_wherryref13_Encode : Ann := .seq .none (.seq (.seq .none (.cond (.seq .none .none) .none)) (.seq .none (.seq .none (.seq (.seq .none (.block (.loop [(6, .one .str), (7, .one (.int .i64))] [1, 4] (.seq (.seq .none (.cond .none .none)) (.seq (.block (.seq .none (.blockJ [(6, .one .str)] [1, 4, 7] (.seq .none (.cond .none (.seq .none (.cond .none (.seq .none (.cond .none (.seq .none (.cond (.seq .none (.cond .none .none)) .none))))))))))) .none))))) (.seq .none .none)))))

theorem e_wherryref13_Encode (A : Amb) (e_0 : Int) (e_1 : Int) (e_2 : Int) (e_3 : Int) (e_4 : Int) (e_5 : Int) (e_6 : Bool) (e_7 : ByteArray) (h : Heap) (R : Value → Heap → Prop) : F_wherryref13_Encode A e_0 e_1 e_2 e_3 e_4 e_5 e_6 e_7 h R = semFun A P f_wherryref13_Encode a_wherryref13_Encode [.agg #[.int .i64 e_0, .int .i64 e_1, .int .i64 e_2, .int .i64 e_3, .int .i64 e_4, .int .i64 e_5, .bool e_6, .string e_7]] h R := by kernel_rfl
theorem ok_wherryref13_Encode {A : Amb} {e_0 : Int} {e_1 : Int} {e_2 : Int} {e_3 : Int} {e_4 : Int} {e_5 : Int} {e_6 : Bool} {e_7 : ByteArray} {h : Heap} {R : Value → Heap → Prop} (H : F_wherryref13_Encode A e_0 e_1 e_2 e_3 e_4 e_5 e_6 e_7 h R) : HCalls A P f_wherryref13_Encode #[.agg #[.int .i64 e_0, .int .i64 e_1, .int .i64 e_2, .int .i64 e_3, .int .i64 e_4, .int .i64 e_5, .bool e_6, .string e_7]] h R :=
  semFun_sound mixed (e_wherryref13_Encode A e_0 e_1 e_2 e_3 e_4 e_5 e_6 e_7 h R ▸ H)

/-- wherry/wherryref01.Text -/
def F_wherryref01_Text (A : Amb) (s : ByteArray) (h : Heap) (R : Value → Heap → Prop) : Prop :=
  HCalls A P f_wherryref01_Int #[.int .i64 (s.size : Int)] h fun v h1 => ∃ t5 : ByteArray, v = .string t5 ∧ (
  Chk (((t5.size + s.size : Nat) : Int) ≤ IntKind.i64.max) <|
  R (.string (t5 ++ s)) h1)

def a_wherryref01_Text : Ann := .seq .none (.seq .none .none)

theorem e_wherryref01_Text (A : Amb) (s : ByteArray) (h : Heap) (R : Value → Heap → Prop) : F_wherryref01_Text A s h R = semFun A P f_wherryref01_Text a_wherryref01_Text [.string s] h R := by kernel_rfl
theorem ok_wherryref01_Text {A : Amb} {s : ByteArray} {h : Heap} {R : Value → Heap → Prop} (H : F_wherryref01_Text A s h R) : HCalls A P f_wherryref01_Text #[.string s] h R :=
  semFun_sound mixed (e_wherryref01_Text A s h R ▸ H)

/-- wherry/wherryref02.four -/
def F_wherryref02_four (A : Amb) (s : ByteArray) (h : Heap) (R : Value → Heap → Prop) : Prop :=
  HCalls A P f_wherryref02_Sum #[.string s] h fun v h1 => ∃ t4 : Int, v = .int .u32 t4 ∧ (
  HCalls A P f_wherryref01_Fixed #[.int .u64 (IntKind.wrap .u64 t4)] h1 fun v1 h2 => ∃ t6 : ByteArray, v1 = .string t6 ∧ (
  Chk ((0 : Int) ≤ 4 ∧ 4 ≤ ((t6.size : Nat) : Int)) <|
  R (.string (t6.extract ((4 : Int).toNat) t6.size)) h2))

def a_wherryref02_four : Ann := .seq .none (.seq .none .none)

theorem e_wherryref02_four (A : Amb) (s : ByteArray) (h : Heap) (R : Value → Heap → Prop) : F_wherryref02_four A s h R = semFun A P f_wherryref02_four a_wherryref02_four [.string s] h R := by kernel_rfl
theorem ok_wherryref02_four {A : Amb} {s : ByteArray} {h : Heap} {R : Value → Heap → Prop} (H : F_wherryref02_four A s h R) : HCalls A P f_wherryref02_four #[.string s] h R :=
  semFun_sound mixed (e_wherryref02_four A s h R ▸ H)

/-- wherry/wherryref01.Get -/
def F_wherryref01_Get (A : Amb) (s : ByteArray) (h : Heap) (R : Value → Heap → Prop) : Prop :=
  Loop (fun K (s1 : Int × Int × Unit) h1 =>
    Join (fun (r : Bool × Unit) h2 =>
        PIf r.1 (
          Chk ((0 : Int) ≤ s1.2.1 ∧ s1.2.1 < (s.size : Int)) <|
          Chk ((0 : Int) ≤ (IntKind.wrap .i64 ((7 : Int) * s1.2.1))) <|
          Chk ((0 : Int) ≤ s1.2.1 ∧ s1.2.1 < (s.size : Int)) <|
          PIf (decide ((sAt s s1.2.1) < (128 : Int))) (
            HCalls A P f_wherryref01_Put #[.int .u64 (bOr .u64 s1.1 (IntKind.wrap .u64 ((IntKind.wrap .u64 ((sAt s s1.2.1).tmod (128 : Int))) * ((2 : Int) ^ (min (IntKind.wrap .i64 ((7 : Int) * s1.2.1)).toNat (IntKind.bits .u64))))))] h2 fun v h3 => ∃ t31 : ByteArray, v = .string t31 ∧ (
            Chk ((0 : Int) ≤ (IntKind.wrap .i64 (s1.2.1 + (1 : Int))) ∧ (IntKind.wrap .i64 (s1.2.1 + (1 : Int))) ≤ ((s.size : Nat) : Int)) <|
            PIf (!sEq t31 (s.extract 0 ((IntKind.wrap .i64 (s1.2.1 + (1 : Int))).toNat))) (
              R (.tuple #[.int .u64 0, .int .i64 0]) h3) (
              R (.tuple #[.int .u64 (bOr .u64 s1.1 (IntKind.wrap .u64 ((IntKind.wrap .u64 ((sAt s s1.2.1).tmod (128 : Int))) * ((2 : Int) ^ (min (IntKind.wrap .i64 ((7 : Int) * s1.2.1)).toNat (IntKind.bits .u64)))))), .int .i64 (IntKind.wrap .i64 (s1.2.1 + (1 : Int)))]) h3))) (
            K ((bOr .u64 s1.1 (IntKind.wrap .u64 ((IntKind.wrap .u64 ((sAt s s1.2.1).tmod (128 : Int))) * ((2 : Int) ^ (min (IntKind.wrap .i64 ((7 : Int) * s1.2.1)).toNat (IntKind.bits .u64)))))), (IntKind.wrap .i64 (s1.2.1 + (1 : Int))), ()) h2)) (
          R (.tuple #[.int .u64 0, .int .i64 0]) h2)) fun K1 =>
      PIf (decide (s1.2.1 < (s.size : Int))) (
        K1 ((decide (s1.2.1 < (10 : Int))), ()) h1) (
        K1 (false, ()) h1)) (0, 0, ()) h

def a_wherryref01_Get : Ann := .seq .none (.seq .none (.seq (.seq .none (.block (.loop [(4, .one (.int .u64)), (5, .one (.int .i64))] [0] (.seq (.seq (.reg [(13, .one .bool)] [0, 4, 5]) (.cond .none .none)) (.seq (.block (.seq .none (.seq .none (.cond (.seq (.seq .none (.cond (.seq .none .none) .none)) (.seq .none .none)) .none)))) .none))))) (.seq .none .none)))

theorem e_wherryref01_Get (A : Amb) (s : ByteArray) (h : Heap) (R : Value → Heap → Prop) : F_wherryref01_Get A s h R = semFun A P f_wherryref01_Get a_wherryref01_Get [.string s] h R := by kernel_rfl
theorem ok_wherryref01_Get {A : Amb} {s : ByteArray} {h : Heap} {R : Value → Heap → Prop} (H : F_wherryref01_Get A s h R) : HCalls A P f_wherryref01_Get #[.string s] h R :=
  semFun_sound mixed (e_wherryref01_Get A s h R ▸ H)

/-- (*wherry/wherryref01.Reader).Int -/
def F_wherryref01_Reader_Int (A : Amb) (r : Option Addr) (most : Int) (h : Heap) (R : Value → Heap → Prop) : Prop :=
  HCalls A P f_wherryref01_Reader_Num #[.pointer r] h fun v h1 => ∃ t7 : Int, v = .int .u64 t7 ∧ (
  Join (fun (r1 : Bool × Unit) h2 =>
      PIf r1.1 (
        HCalls A P f_wherryref01_Reader_fail #[.pointer r] h2 fun v1 h3 => v1 = .tuple #[] ∧ (
        R (.int .i64 0) h3)) (
        R (.int .i64 (IntKind.wrap .i64 t7)) h2)) fun K =>
    At r fun a =>
    LoadB h1 (a.add 1) fun t11 =>
    PIf t11 (
      K (true, ()) h1) (
      PIf (decide (most < (0 : Int))) (
        K (true, ()) h1) (
        K ((decide (t7 > (IntKind.wrap .u64 most))), ()) h1)))

def a_wherryref01_Reader_Int : Ann := .seq .none (.seq .none (.seq (.seq (.reg [(21, .one .bool)] [0, 5]) (.cond (.seq .none (.seq .none .none)) .none)) (.seq .none .none)))

theorem e_wherryref01_Reader_Int (A : Amb) (r : Option Addr) (most : Int) (h : Heap) (R : Value → Heap → Prop) : F_wherryref01_Reader_Int A r most h R = semFun A P f_wherryref01_Reader_Int a_wherryref01_Reader_Int [.pointer r, .int .i64 most] h R := by kernel_rfl
theorem ok_wherryref01_Reader_Int {A : Amb} {r : Option Addr} {most : Int} {h : Heap} {R : Value → Heap → Prop} (H : F_wherryref01_Reader_Int A r most h R) : HCalls A P f_wherryref01_Reader_Int #[.pointer r, .int .i64 most] h R :=
  semFun_sound mixed (e_wherryref01_Reader_Int A r most h R ▸ H)

/-- wherry/wherryref13.Decode -/
def F_wherryref13_Decode (A : Amb) (s : ByteArray) (h : Heap) (R : Value → Heap → Prop) : Prop :=
  New h (.cells #[.int .i64 0, .int .i64 0, .int .i64 0, .int .i64 0, .int .i64 0, .int .i64 0, .bool false, .string (⟨#[]⟩ : ByteArray)] t_api_Event) fun b h1 =>
  New h1 (.cells #[.string s, .bool false] t_wherryref01_Reader) fun b1 h2 =>
  New h2 (.cells #[.int .i64 0, .int .i64 0, .int .i64 0, .int .i64 0, .int .i64 0, .int .i64 0, .bool false, .string (⟨#[]⟩ : ByteArray)] t_api_Event) fun b2 h3 =>
  HCalls A P f_wherryref01_Reader_Int #[.pointer (some (⟨b1, 0, none⟩ : Addr)), .int .i64 1000] h3 fun v h4 => ∃ t15 : Int, v = .int .i64 t15 ∧ (
  Store h4 (⟨b2, 0, none⟩ : Addr) (.int .i64 t15) fun h5 =>
  HCalls A P f_wherryref01_Reader_Int #[.pointer (some (⟨b1, 0, none⟩ : Addr)), .int .i64 100] h5 fun v1 h6 => ∃ t18 : Int, v1 = .int .i64 t18 ∧ (
  Store h6 ((⟨b2, 0, none⟩ : Addr).add 1) (.int .i64 t18) fun h7 =>
  HCalls A P f_wherryref01_Reader_Int #[.pointer (some (⟨b1, 0, none⟩ : Addr)), .int .i64 1125899906842624] h7 fun v2 h8 => ∃ t21 : Int, v2 = .int .i64 t21 ∧ (
  Store h8 ((⟨b2, 0, none⟩ : Addr).add 2) (.int .i64 t21) fun h9 =>
  LoadI .i64 h9 ((⟨b2, 0, none⟩ : Addr).add 1) fun t25 =>
  HCalls A P f_wherryref13_fields #[.int .i64 t25] h9 fun v3 h10 => ∃ t26a : ByteArray, ∃ t26b : Bool, v3 = .tuple #[.string t26a, .bool t26b] ∧ (
  Loop (fun K (s1 : Int × Unit) h11 =>
    PIf (decide (s1.1 < (t26a.size : Int))) (
      Chk ((0 : Int) ≤ s1.1 ∧ s1.1 < (t26a.size : Int)) <|
      Join (fun (s2 : Unit) h12 =>
          K ((IntKind.wrap .i64 (s1.1 + (1 : Int))), ()) h12) fun K1 =>
        PIf ((sAt t26a s1.1) == (114 : Int)) (
          HCalls A P f_wherryref01_Reader_Int #[.pointer (some (⟨b1, 0, none⟩ : Addr)), .int .i64 1000] h11 fun v4 h13 => ∃ t44 : Int, v4 = .int .i64 t44 ∧ (
          Store h13 ((⟨b2, 0, none⟩ : Addr).add 3) (.int .i64 t44) fun h14 =>
          K1 () h14)) (
          PIf ((sAt t26a s1.1) == (115 : Int)) (
            HCalls A P f_wherryref01_Reader_Int #[.pointer (some (⟨b1, 0, none⟩ : Addr)), .int .i64 100] h11 fun v5 h15 => ∃ t49 : Int, v5 = .int .i64 t49 ∧ (
            Store h15 ((⟨b2, 0, none⟩ : Addr).add 4) (.int .i64 t49) fun h16 =>
            K1 () h16)) (
            PIf ((sAt t26a s1.1) == (116 : Int)) (
              HCalls A P f_wherryref01_Reader_Int #[.pointer (some (⟨b1, 0, none⟩ : Addr)), .int .i64 100] h11 fun v6 h17 => ∃ t54 : Int, v6 = .int .i64 t54 ∧ (
              Store h17 ((⟨b2, 0, none⟩ : Addr).add 5) (.int .i64 t54) fun h18 =>
              K1 () h18)) (
              PIf ((sAt t26a s1.1) == (117 : Int)) (
                HCalls A P f_wherryref01_Reader_Int #[.pointer (some (⟨b1, 0, none⟩ : Addr)), .int .i64 1] h11 fun v7 h19 => ∃ t59 : Int, v7 = .int .i64 t59 ∧ (
                Store h19 ((⟨b2, 0, none⟩ : Addr).add 6) (.bool (t59 == (1 : Int))) fun h20 =>
                K1 () h20)) (
                HCalls A P f_wherryref01_Reader_Text #[.pointer (some (⟨b1, 0, none⟩ : Addr))] h11 fun v8 h21 => ∃ t39 : ByteArray, v8 = .string t39 ∧ (
                Store h21 ((⟨b2, 0, none⟩ : Addr).add 7) (.string t39) fun h22 =>
                K1 () h22)))))) (
      LoadI .i64 h11 (⟨b2, 0, none⟩ : Addr) fun t63_0 =>
      LoadI .i64 h11 ((⟨b2, 0, none⟩ : Addr).add 1) fun t63_1 =>
      LoadI .i64 h11 ((⟨b2, 0, none⟩ : Addr).add 2) fun t63_2 =>
      LoadI .i64 h11 ((⟨b2, 0, none⟩ : Addr).add 3) fun t63_3 =>
      LoadI .i64 h11 ((⟨b2, 0, none⟩ : Addr).add 4) fun t63_4 =>
      LoadI .i64 h11 ((⟨b2, 0, none⟩ : Addr).add 5) fun t63_5 =>
      LoadB h11 ((⟨b2, 0, none⟩ : Addr).add 6) fun t63_6 =>
      LoadS h11 ((⟨b2, 0, none⟩ : Addr).add 7) fun t63_7 =>
      HCalls A P f_wherryref13_Encode #[.agg #[.int .i64 t63_0, .int .i64 t63_1, .int .i64 t63_2, .int .i64 t63_3, .int .i64 t63_4, .int .i64 t63_5, .bool t63_6, .string t63_7]] h11 fun v9 h23 => ∃ t64a : ByteArray, ∃ t64b : Int, v9 = .tuple #[.string t64a, .int .i64 t64b] ∧ (
      Join (fun (r : Bool × Unit) h24 =>
          PIf r.1 (
            Store h24 (⟨b, 0, none⟩ : Addr) (.int .i64 0) fun h25 =>
            Store h25 ((⟨b, 0, none⟩ : Addr).add 1) (.int .i64 0) fun h26 =>
            Store h26 ((⟨b, 0, none⟩ : Addr).add 2) (.int .i64 0) fun h27 =>
            Store h27 ((⟨b, 0, none⟩ : Addr).add 3) (.int .i64 0) fun h28 =>
            Store h28 ((⟨b, 0, none⟩ : Addr).add 4) (.int .i64 0) fun h29 =>
            Store h29 ((⟨b, 0, none⟩ : Addr).add 5) (.int .i64 0) fun h30 =>
            Store h30 ((⟨b, 0, none⟩ : Addr).add 6) (.bool false) fun h31 =>
            Store h31 ((⟨b, 0, none⟩ : Addr).add 7) (.string (⟨#[]⟩ : ByteArray)) fun h32 =>
            LoadI .i64 h32 (⟨b, 0, none⟩ : Addr) fun res_0 =>
            LoadI .i64 h32 ((⟨b, 0, none⟩ : Addr).add 1) fun res_1 =>
            LoadI .i64 h32 ((⟨b, 0, none⟩ : Addr).add 2) fun res_2 =>
            LoadI .i64 h32 ((⟨b, 0, none⟩ : Addr).add 3) fun res_3 =>
            LoadI .i64 h32 ((⟨b, 0, none⟩ : Addr).add 4) fun res_4 =>
            LoadI .i64 h32 ((⟨b, 0, none⟩ : Addr).add 5) fun res_5 =>
            LoadB h32 ((⟨b, 0, none⟩ : Addr).add 6) fun res_6 =>
            LoadS h32 ((⟨b, 0, none⟩ : Addr).add 7) fun res_7 =>
            R (.tuple #[.agg #[.int .i64 res_0, .int .i64 res_1, .int .i64 res_2, .int .i64 res_3, .int .i64 res_4, .int .i64 res_5, .bool res_6, .string res_7], .int .i64 60]) h32) (
            LoadI .i64 h24 (⟨b2, 0, none⟩ : Addr) fun t80_0 =>
            LoadI .i64 h24 ((⟨b2, 0, none⟩ : Addr).add 1) fun t80_1 =>
            LoadI .i64 h24 ((⟨b2, 0, none⟩ : Addr).add 2) fun t80_2 =>
            LoadI .i64 h24 ((⟨b2, 0, none⟩ : Addr).add 3) fun t80_3 =>
            LoadI .i64 h24 ((⟨b2, 0, none⟩ : Addr).add 4) fun t80_4 =>
            LoadI .i64 h24 ((⟨b2, 0, none⟩ : Addr).add 5) fun t80_5 =>
            LoadB h24 ((⟨b2, 0, none⟩ : Addr).add 6) fun t80_6 =>
            LoadS h24 ((⟨b2, 0, none⟩ : Addr).add 7) fun t80_7 =>
            Store h24 (⟨b, 0, none⟩ : Addr) (.int .i64 t80_0) fun h33 =>
            Store h33 ((⟨b, 0, none⟩ : Addr).add 1) (.int .i64 t80_1) fun h34 =>
            Store h34 ((⟨b, 0, none⟩ : Addr).add 2) (.int .i64 t80_2) fun h35 =>
            Store h35 ((⟨b, 0, none⟩ : Addr).add 3) (.int .i64 t80_3) fun h36 =>
            Store h36 ((⟨b, 0, none⟩ : Addr).add 4) (.int .i64 t80_4) fun h37 =>
            Store h37 ((⟨b, 0, none⟩ : Addr).add 5) (.int .i64 t80_5) fun h38 =>
            Store h38 ((⟨b, 0, none⟩ : Addr).add 6) (.bool t80_6) fun h39 =>
            Store h39 ((⟨b, 0, none⟩ : Addr).add 7) (.string t80_7) fun h40 =>
            LoadI .i64 h40 (⟨b, 0, none⟩ : Addr) fun res_0_1 =>
            LoadI .i64 h40 ((⟨b, 0, none⟩ : Addr).add 1) fun res_1_1 =>
            LoadI .i64 h40 ((⟨b, 0, none⟩ : Addr).add 2) fun res_2_1 =>
            LoadI .i64 h40 ((⟨b, 0, none⟩ : Addr).add 3) fun res_3_1 =>
            LoadI .i64 h40 ((⟨b, 0, none⟩ : Addr).add 4) fun res_4_1 =>
            LoadI .i64 h40 ((⟨b, 0, none⟩ : Addr).add 5) fun res_5_1 =>
            LoadB h40 ((⟨b, 0, none⟩ : Addr).add 6) fun res_6_1 =>
            LoadS h40 ((⟨b, 0, none⟩ : Addr).add 7) fun res_7_1 =>
            R (.tuple #[.agg #[.int .i64 res_0_1, .int .i64 res_1_1, .int .i64 res_2_1, .int .i64 res_3_1, .int .i64 res_4_1, .int .i64 res_5_1, .bool res_6_1, .string res_7_1], .int .i64 0]) h40)) fun K2 =>
        PIf (t64b != (0 : Int)) (
          K2 (true, ()) h23) (
          HCalls A P f_wherryref01_Reader_End #[.pointer (some (⟨b1, 0, none⟩ : Addr))] h23 fun v10 h41 => ∃ t71 : Bool, v10 = .bool t71 ∧ (
          PIf (!t71) (
            K2 (true, ()) h41) (
            K2 ((!sEq t64a s), ()) h41)))))) (0, ()) h10))))

def a_wherryref13_Decode : Ann := .seq .none (.seq .none (.seq .none (.seq .none (.seq .none (.seq .none (.seq .none (.seq (.seq .none (.block (.loop [(8, .one (.int .i64))] [0, 2, 4, 5, 6] (.seq (.seq .none (.cond .none .none)) (.seq (.block (.seq .none (.blockJ [] [0, 2, 4, 5, 6, 8] (.seq .none (.cond .none (.seq .none (.cond .none (.seq .none (.cond .none (.seq .none (.cond .none .none))))))))))) .none))))) (.seq .none (.seq (.seq (.reg [(78, .one .bool)] [2, 5]) (.cond (.seq .none .none) .none)) (.seq .none .none))))))))))

theorem e_wherryref13_Decode (A : Amb) (s : ByteArray) (h : Heap) (R : Value → Heap → Prop) : F_wherryref13_Decode A s h R = semFun A P f_wherryref13_Decode a_wherryref13_Decode [.string s] h R := by kernel_rfl
theorem ok_wherryref13_Decode {A : Amb} {s : ByteArray} {h : Heap} {R : Value → Heap → Prop} (H : F_wherryref13_Decode A s h R) : HCalls A P f_wherryref13_Decode #[.string s] h R :=
  semFun_sound mixed (e_wherryref13_Decode A s h R ▸ H)

/-- (*wherry/wherryref01.Reader).Text -/
def F_wherryref01_Reader_Text (A : Amb) (r : Option Addr) (h : Heap) (R : Value → Heap → Prop) : Prop :=
  HCalls A P f_wherryref01_Reader_Num #[.pointer r] h fun v h1 => ∃ t5 : Int, v = .int .u64 t5 ∧ (
  Join (fun (r1 : Bool × Unit) h2 =>
      PIf r1.1 (
        HCalls A P f_wherryref01_Reader_fail #[.pointer r] h2 fun v1 h3 => v1 = .tuple #[] ∧ (
        R (.string (⟨#[]⟩ : ByteArray)) h3)) (
        HCalls A P f_wherryref01_Reader_Take #[.pointer r, .int .i64 (IntKind.wrap .i64 t5)] h2 fun v2 h4 => ∃ t25 : ByteArray, v2 = .string t25 ∧ (
        R (.string t25) h4))) fun K =>
    At r fun a =>
    LoadB h1 (a.add 1) fun t9 =>
    PIf t9 (
      K (true, ()) h1) (
      At r fun a1 =>
      LoadS h1 a1 fun t15 =>
      K ((decide (t5 > (IntKind.wrap .u64 (t15.size : Int)))), ()) h1))

def a_wherryref01_Reader_Text : Ann := .seq .none (.seq .none (.seq (.seq (.reg [(19, .one .bool)] [0, 3]) (.cond (.seq .none (.seq .none .none)) .none)) (.seq .none .none)))

theorem e_wherryref01_Reader_Text (A : Amb) (r : Option Addr) (h : Heap) (R : Value → Heap → Prop) : F_wherryref01_Reader_Text A r h R = semFun A P f_wherryref01_Reader_Text a_wherryref01_Reader_Text [.pointer r] h R := by kernel_rfl
theorem ok_wherryref01_Reader_Text {A : Amb} {r : Option Addr} {h : Heap} {R : Value → Heap → Prop} (H : F_wherryref01_Reader_Text A r h R) : HCalls A P f_wherryref01_Reader_Text #[.pointer r] h R :=
  semFun_sound mixed (e_wherryref01_Reader_Text A r h R ▸ H)

/-- (*wherry/wherryref01.Reader).End -/
def F_wherryref01_Reader_End (A : Amb) (r : Option Addr) (h : Heap) (R : Value → Heap → Prop) : Prop :=
  At r fun a =>
  LoadB h (a.add 1) fun t6 =>
  PIf (!t6) (
    At r fun a1 =>
    LoadS h a1 fun t12 =>
    R (.bool (sEq t12 (⟨#[]⟩ : ByteArray))) h) (
    R (.bool false) h)

def a_wherryref01_Reader_End : Ann := .seq .none (.seq .none .none)

theorem e_wherryref01_Reader_End (A : Amb) (r : Option Addr) (h : Heap) (R : Value → Heap → Prop) : F_wherryref01_Reader_End A r h R = semFun A P f_wherryref01_Reader_End a_wherryref01_Reader_End [.pointer r] h R := by kernel_rfl
theorem ok_wherryref01_Reader_End {A : Amb} {r : Option Addr} {h : Heap} {R : Value → Heap → Prop} (H : F_wherryref01_Reader_End A r h R) : HCalls A P f_wherryref01_Reader_End #[.pointer r] h R :=
  semFun_sound mixed (e_wherryref01_Reader_End A r h R ▸ H)

/-- wherry/event.Check -/
def F_event_Check (A : Amb) (e_0 : Int) (e_1 : Int) (e_2 : Int) (e_3 : Int) (e_4 : Int) (e_5 : Int) (e_6 : Bool) (e_7 : ByteArray) (h : Heap) (R : Value → Heap → Prop) : Prop :=
  New h (.cells #[.int .i64 e_0, .int .i64 e_1, .int .i64 e_2, .int .i64 e_3, .int .i64 e_4, .int .i64 e_5, .bool e_6, .string e_7] t_api_Event) fun b h1 =>
  LoadI .i64 h1 ((⟨b, 0, none⟩ : Addr).add 1) fun t10 =>
  HCalls A P f_event_fields #[.int .i64 t10] h1 fun v h2 => ∃ t11a : Int, ∃ t11b : Bool, v = .tuple #[.int .i64 t11a, .bool t11b] ∧ (
  New h2 (.cells #[.int .i64 0] t_int) fun b1 h3 =>
  Store h3 (⟨b1, 0, none⟩ : Addr) (.int .i64 t11a) fun h4 =>
  Join (fun (r : Bool × Unit) h5 =>
      PIf r.1 (
        R (.int .i64 120) h5) (
        LoadI .i64 h5 ((⟨b, 0, none⟩ : Addr).add 1) fun t81 =>
        Join (fun (s : Unit) h6 =>
            R (.int .i64 0) h6) fun K1 =>
          PIf (t81 == (1 : Int)) (
            LoadS h5 ((⟨b, 0, none⟩ : Addr).add 7) fun t86 =>
            HCalls A P f_prog_Decode #[.string t86] h5 fun v1 h7 => ∃ t87a_0 : Sl, ∃ t87a_1 : Int, ∃ t87b : Int, v1 = .tuple #[.agg #[.slice t87a_0.p t87a_0.len t87a_0.cap, .int .i64 t87a_1], .int .i64 t87b] ∧ (
            New h7 (.cells #[.slice none 0 0, .int .i64 0] t_api_Program) fun b2 h8 =>
            Store h8 (⟨b2, 0, none⟩ : Addr) (.slice t87a_0.p t87a_0.len t87a_0.cap) fun h9 =>
            Store h9 ((⟨b2, 0, none⟩ : Addr).add 1) (.int .i64 t87a_1) fun h10 =>
            PIf (t87b != (0 : Int)) (
              R (.int .i64 120) h10) (
              K1 () h10))) (
            PIf (t81 == (12 : Int)) (
              LoadS h5 ((⟨b, 0, none⟩ : Addr).add 7) fun t95 =>
              HCalls A P f_prog_Named #[.string t95] h5 fun v2 h11 => ∃ t96 : Bool, v2 = .bool t96 ∧ (
              PIf (!t96) (
                R (.int .i64 120) h11) (
                K1 () h11))) (
              K1 () h5)))) fun K =>
    PIf (!t11b) (
      K (true, ()) h4) (
      LoadI .i64 h4 (⟨b, 0, none⟩ : Addr) fun t19 =>
      PIf (decide (t19 < (1 : Int))) (
        K (true, ()) h4) (
        LoadI .i64 h4 (⟨b, 0, none⟩ : Addr) fun t24 =>
        PIf (decide (t24 > (500 : Int))) (
          K (true, ()) h4) (
          LoadI .i64 h4 ((⟨b, 0, none⟩ : Addr).add 2) fun t29 =>
          PIf (decide (t29 < (0 : Int))) (
            K (true, ()) h4) (
            LoadI .i64 h4 ((⟨b, 0, none⟩ : Addr).add 2) fun t34 =>
            PIf (decide (t34 > (1099511627776 : Int))) (
              K (true, ()) h4) (
              LoadI .i64 h4 ((⟨b, 0, none⟩ : Addr).add 3) fun t40 =>
              LoadI .i64 h4 (⟨b, 0, none⟩ : Addr) fun t42 =>
              CallV A P (.func (.func f_event_Check_1) #[] #[.pointer (some (⟨b1, 0, none⟩ : Addr))]) #[.int .i64 t40, .int .i64 1, .int .i64 (IntKind.wrap .i64 (t42 - (1 : Int))), .int .i64 1] h4 fun v3 h12 => ∃ t44 : Bool, v3 = .bool t44 ∧ (
              PIf (!t44) (
                K (true, ()) h12) (
                LoadI .i64 h12 ((⟨b, 0, none⟩ : Addr).add 4) fun t50 =>
                CallV A P (.func (.func f_event_Check_1) #[] #[.pointer (some (⟨b1, 0, none⟩ : Addr))]) #[.int .i64 t50, .int .i64 0, .int .i64 15, .int .i64 2] h12 fun v4 h13 => ∃ t51 : Bool, v4 = .bool t51 ∧ (
                PIf (!t51) (
                  K (true, ()) h13) (
                  LoadI .i64 h13 ((⟨b, 0, none⟩ : Addr).add 5) fun t57 =>
                  CallV A P (.func (.func f_event_Check_1) #[] #[.pointer (some (⟨b1, 0, none⟩ : Addr))]) #[.int .i64 t57, .int .i64 1, .int .i64 5, .int .i64 4] h13 fun v5 h14 => ∃ t58 : Bool, v5 = .bool t58 ∧ (
                  PIf (!t58) (
                    K (true, ()) h14) (
                    LoadB h14 ((⟨b, 0, none⟩ : Addr).add 6) fun t63 =>
                    PIf t63 (
                      LoadI .i64 h14 (⟨b1, 0, none⟩ : Addr) fun t65 =>
                      PIf ((bAnd .i64 t65 (8 : Int)) == (0 : Int)) (
                        K (true, ()) h14) (
                        LoadS h14 ((⟨b, 0, none⟩ : Addr).add 7) fun t72 =>
                        PIf (!sEq t72 (⟨#[]⟩ : ByteArray)) (
                          LoadI .i64 h14 (⟨b1, 0, none⟩ : Addr) fun t75 =>
                          K (((bAnd .i64 t75 (16 : Int)) == (0 : Int)), ()) h14) (
                          K (false, ()) h14))) (
                      LoadS h14 ((⟨b, 0, none⟩ : Addr).add 7) fun t72_1 =>
                      PIf (!sEq t72_1 (⟨#[]⟩ : ByteArray)) (
                        LoadI .i64 h14 (⟨b1, 0, none⟩ : Addr) fun t75_1 =>
                        K (((bAnd .i64 t75_1 (16 : Int)) == (0 : Int)), ()) h14) (
                        K (false, ()) h14))))))))))))))

def a_event_Check : Ann := .seq .none (.seq .none (.seq .none (.seq (.seq (.reg [(79, .one .bool)] [1]) (.cond (.seq .none .none) .none)) (.seq (.seq .none (.blockJ [] [] (.seq .none (.cond (.seq .none (.seq .none (.cond (.seq .none .none) .none))) (.seq .none (.cond (.seq .none (.cond (.seq .none .none) .none)) .none)))))) (.seq .none .none)))))

theorem e_event_Check (A : Amb) (e_0 : Int) (e_1 : Int) (e_2 : Int) (e_3 : Int) (e_4 : Int) (e_5 : Int) (e_6 : Bool) (e_7 : ByteArray) (h : Heap) (R : Value → Heap → Prop) : F_event_Check A e_0 e_1 e_2 e_3 e_4 e_5 e_6 e_7 h R = semFun A P f_event_Check a_event_Check [.agg #[.int .i64 e_0, .int .i64 e_1, .int .i64 e_2, .int .i64 e_3, .int .i64 e_4, .int .i64 e_5, .bool e_6, .string e_7]] h R := by kernel_rfl
theorem ok_event_Check {A : Amb} {e_0 : Int} {e_1 : Int} {e_2 : Int} {e_3 : Int} {e_4 : Int} {e_5 : Int} {e_6 : Bool} {e_7 : ByteArray} {h : Heap} {R : Value → Heap → Prop} (H : F_event_Check A e_0 e_1 e_2 e_3 e_4 e_5 e_6 e_7 h R) : HCalls A P f_event_Check #[.agg #[.int .i64 e_0, .int .i64 e_1, .int .i64 e_2, .int .i64 e_3, .int .i64 e_4, .int .i64 e_5, .bool e_6, .string e_7]] h R :=
  semFun_sound mixed (e_event_Check A e_0 e_1 e_2 e_3 e_4 e_5 e_6 e_7 h R ▸ H)

/-- wherry/event.fields -/
def F_event_fields (A : Amb) (kind : Int) (h : Heap) (R : Value → Heap → Prop) : Prop :=
  Join (fun (s : Bool × Unit) h1 =>
      PIf s.1 (
        R (.tuple #[.int .i64 0, .bool true]) h1) (
        Join (fun (s1 : Bool × Unit) h2 =>
            PIf s1.1 (
              R (.tuple #[.int .i64 1, .bool true]) h2) (
              Join (fun (s2 : Bool × Unit) h3 =>
                  PIf s2.1 (
                    R (.tuple #[.int .i64 5, .bool true]) h3) (
                    PIf (kind == (6 : Int)) (
                      R (.tuple #[.int .i64 10, .bool true]) h3) (
                      PIf (kind == (10 : Int)) (
                        R (.tuple #[.int .i64 2, .bool true]) h3) (
                        Join (fun (s3 : Bool × Unit) h4 =>
                            PIf s3.1 (
                              R (.tuple #[.int .i64 16, .bool true]) h4) (
                              R (.tuple #[.int .i64 0, .bool false]) h4)) fun K3 =>
                          PIf (kind == (1 : Int)) (
                            K3 ((kind == (1 : Int)), ()) h3) (
                            K3 ((kind == (12 : Int)), ()) h3))))) fun K2 =>
                PIf (kind == (7 : Int)) (
                  K2 ((kind == (7 : Int)), ()) h2) (
                  PIf (kind == (8 : Int)) (
                    K2 ((kind == (8 : Int)), ()) h2) (
                    K2 ((kind == (9 : Int)), ()) h2)))) fun K1 =>
          PIf (kind == (3 : Int)) (
            K1 ((kind == (3 : Int)), ()) h1) (
            PIf (kind == (4 : Int)) (
              K1 ((kind == (4 : Int)), ()) h1) (
              PIf (kind == (5 : Int)) (
                K1 ((kind == (5 : Int)), ()) h1) (
                K1 ((kind == (11 : Int)), ()) h1))))) fun K =>
    PIf (kind == (2 : Int)) (
      K ((kind == (2 : Int)), ()) h) (
      PIf (kind == (13 : Int)) (
        K ((kind == (13 : Int)), ()) h) (
        PIf (kind == (14 : Int)) (
          K ((kind == (14 : Int)), ()) h) (
          PIf (kind == (15 : Int)) (
            K ((kind == (15 : Int)), ()) h) (
            PIf (kind == (16 : Int)) (
              K ((kind == (16 : Int)), ()) h) (
              PIf (kind == (17 : Int)) (
                K ((kind == (17 : Int)), ()) h) (
                K ((kind == (18 : Int)), ()) h))))))

def a_event_fields : Ann := .seq .none (.seq (.seq .none (.block (.seqJ [(5, .one .bool)] [4] (.seq .none (.cond .none (.seq .none (.cond .none (.seq .none (.cond .none (.seq .none (.cond .none (.seq .none (.cond .none (.seq .none (.cond .none .none)))))))))))) (.cond (.seq .none .none) (.seqJ [(13, .one .bool)] [4] (.seq .none (.cond .none (.seq .none (.cond .none (.seq .none (.cond .none .none)))))) (.cond (.seq .none .none) (.seqJ [(18, .one .bool)] [4] (.seq .none (.cond .none (.seq .none (.cond .none .none)))) (.cond (.seq .none .none) (.seq .none (.cond (.seq .none .none) (.seq .none (.cond (.seq .none .none) (.seqJ [(26, .one .bool)] [] (.seq .none (.cond .none .none)) (.cond (.seq .none .none) .none)))))))))))))) (.seq .none .none))

theorem e_event_fields (A : Amb) (kind : Int) (h : Heap) (R : Value → Heap → Prop) : F_event_fields A kind h R = semFun A P f_event_fields a_event_fields [.int .i64 kind] h R := by kernel_rfl
theorem ok_event_fields {A : Amb} {kind : Int} {h : Heap} {R : Value → Heap → Prop} (H : F_event_fields A kind h R) : HCalls A P f_event_fields #[.int .i64 kind] h R :=
  semFun_sound mixed (e_event_fields A kind h R ▸ H)

/-- (*wherry/vary.Reader).Num -/
def F_vary_Reader_Num (A : Amb) (r : Option Addr) (h : Heap) (R : Value → Heap → Prop) : Prop :=
  Join (fun (r1 : Bool × Unit) h1 =>
      PIf r1.1 (
        R (.int .u64 0) h1) (
        At r fun a =>
        LoadS h1 a fun t18 =>
        HCalls A P f_vary_Get #[.string t18] h1 fun v h2 => ∃ t19a : Int, ∃ t19b : ByteArray, ∃ t19c : Bool, v = .tuple #[.int .u64 t19a, .string t19b, .bool t19c] ∧ (
        At r fun a1 =>
        Store h2 a1 (.string t19b) fun h3 =>
        At r fun a2 =>
        Store h3 (a2.add 1) (.bool (!t19c)) fun h4 =>
        R (.int .u64 t19a) h4))) fun K =>
    PIf (r.isNone) (
      K (true, ()) h) (
      At r fun a3 =>
      LoadB h (a3.add 1) fun t12 =>
      K (t12, ()) h)

def a_vary_Reader_Num : Ann := .seq .none (.seq (.seq (.reg [(13, .one .bool)] [0]) (.cond (.seq .none .none) .none)) (.seq .none (.seq .none (.seq .none .none))))

theorem e_vary_Reader_Num (A : Amb) (r : Option Addr) (h : Heap) (R : Value → Heap → Prop) : F_vary_Reader_Num A r h R = semFun A P f_vary_Reader_Num a_vary_Reader_Num [.pointer r] h R := by kernel_rfl
theorem ok_vary_Reader_Num {A : Amb} {r : Option Addr} {h : Heap} {R : Value → Heap → Prop} (H : F_vary_Reader_Num A r h R) : HCalls A P f_vary_Reader_Num #[.pointer r] h R :=
  semFun_sound mixed (e_vary_Reader_Num A r h R ▸ H)

/-- wherry/event.read -/
def F_event_read (A : Amb) (r : Option Addr) (h : Heap) (R : Value → Heap → Prop) : Prop :=
  New h (.cells #[.int .i64 0, .int .i64 0, .int .i64 0, .int .i64 0, .int .i64 0, .int .i64 0, .bool false, .string (⟨#[]⟩ : ByteArray)] t_api_Event) fun b h1 =>
  HCalls A P f_vary_Reader_Int #[.pointer r, .int .i64 500] h1 fun v h2 => ∃ t7 : Int, v = .int .i64 t7 ∧ (
  HCalls A P f_vary_Reader_Int #[.pointer r, .int .i64 18] h2 fun v1 h3 => ∃ t9 : Int, v1 = .int .i64 t9 ∧ (
  HCalls A P f_vary_Reader_Int #[.pointer r, .int .i64 1099511627776] h3 fun v2 h4 => ∃ t11 : Int, v2 = .int .i64 t11 ∧ (
  New h4 (.cells #[.int .i64 0, .int .i64 0, .int .i64 0, .int .i64 0, .int .i64 0, .int .i64 0, .bool false, .string (⟨#[]⟩ : ByteArray)] t_api_Event) fun b1 h5 =>
  Store h5 (⟨b1, 0, none⟩ : Addr) (.int .i64 t7) fun h6 =>
  Store h6 ((⟨b1, 0, none⟩ : Addr).add 1) (.int .i64 t9) fun h7 =>
  Store h7 ((⟨b1, 0, none⟩ : Addr).add 2) (.int .i64 t11) fun h8 =>
  Store h8 ((⟨b1, 0, none⟩ : Addr).add 3) (.int .i64 0) fun h9 =>
  Store h9 ((⟨b1, 0, none⟩ : Addr).add 4) (.int .i64 0) fun h10 =>
  Store h10 ((⟨b1, 0, none⟩ : Addr).add 5) (.int .i64 0) fun h11 =>
  Store h11 ((⟨b1, 0, none⟩ : Addr).add 6) (.bool false) fun h12 =>
  Store h12 ((⟨b1, 0, none⟩ : Addr).add 7) (.string (⟨#[]⟩ : ByteArray)) fun h13 =>
  LoadI .i64 h13 ((⟨b1, 0, none⟩ : Addr).add 1) fun t15 =>
  HCalls A P f_event_fields #[.int .i64 t15] h13 fun v3 h14 => ∃ t16a : Int, ∃ t16b : Bool, v3 = .tuple #[.int .i64 t16a, .bool t16b] ∧ (
  Join (fun (s : Unit) h15 =>
      Join (fun (s1 : Unit) h16 =>
          Join (fun (s2 : Unit) h17 =>
              Join (fun (s3 : Unit) h18 =>
                  Join (fun (s4 : Unit) h19 =>
                      LoadI .i64 h19 (⟨b1, 0, none⟩ : Addr) fun t50_0 =>
                      LoadI .i64 h19 ((⟨b1, 0, none⟩ : Addr).add 1) fun t50_1 =>
                      LoadI .i64 h19 ((⟨b1, 0, none⟩ : Addr).add 2) fun t50_2 =>
                      LoadI .i64 h19 ((⟨b1, 0, none⟩ : Addr).add 3) fun t50_3 =>
                      LoadI .i64 h19 ((⟨b1, 0, none⟩ : Addr).add 4) fun t50_4 =>
                      LoadI .i64 h19 ((⟨b1, 0, none⟩ : Addr).add 5) fun t50_5 =>
                      LoadB h19 ((⟨b1, 0, none⟩ : Addr).add 6) fun t50_6 =>
                      LoadS h19 ((⟨b1, 0, none⟩ : Addr).add 7) fun t50_7 =>
                      Store h19 (⟨b, 0, none⟩ : Addr) (.int .i64 t50_0) fun h20 =>
                      Store h20 ((⟨b, 0, none⟩ : Addr).add 1) (.int .i64 t50_1) fun h21 =>
                      Store h21 ((⟨b, 0, none⟩ : Addr).add 2) (.int .i64 t50_2) fun h22 =>
                      Store h22 ((⟨b, 0, none⟩ : Addr).add 3) (.int .i64 t50_3) fun h23 =>
                      Store h23 ((⟨b, 0, none⟩ : Addr).add 4) (.int .i64 t50_4) fun h24 =>
                      Store h24 ((⟨b, 0, none⟩ : Addr).add 5) (.int .i64 t50_5) fun h25 =>
                      Store h25 ((⟨b, 0, none⟩ : Addr).add 6) (.bool t50_6) fun h26 =>
                      Store h26 ((⟨b, 0, none⟩ : Addr).add 7) (.string t50_7) fun h27 =>
                      LoadI .i64 h27 (⟨b, 0, none⟩ : Addr) fun res_0 =>
                      LoadI .i64 h27 ((⟨b, 0, none⟩ : Addr).add 1) fun res_1 =>
                      LoadI .i64 h27 ((⟨b, 0, none⟩ : Addr).add 2) fun res_2 =>
                      LoadI .i64 h27 ((⟨b, 0, none⟩ : Addr).add 3) fun res_3 =>
                      LoadI .i64 h27 ((⟨b, 0, none⟩ : Addr).add 4) fun res_4 =>
                      LoadI .i64 h27 ((⟨b, 0, none⟩ : Addr).add 5) fun res_5 =>
                      LoadB h27 ((⟨b, 0, none⟩ : Addr).add 6) fun res_6 =>
                      LoadS h27 ((⟨b, 0, none⟩ : Addr).add 7) fun res_7 =>
                      R (.agg #[.int .i64 res_0, .int .i64 res_1, .int .i64 res_2, .int .i64 res_3, .int .i64 res_4, .int .i64 res_5, .bool res_6, .string res_7]) h27) fun K4 =>
                    PIf ((bAnd .i64 t16a (16 : Int)) != (0 : Int)) (
                      HCalls A P f_vary_Reader_Text #[.pointer r] h18 fun v4 h28 => ∃ t48 : ByteArray, v4 = .string t48 ∧ (
                      Store h28 ((⟨b1, 0, none⟩ : Addr).add 7) (.string t48) fun h29 =>
                      K4 () h29)) (
                      K4 () h18)) fun K3 =>
                PIf ((bAnd .i64 t16a (8 : Int)) != (0 : Int)) (
                  HCalls A P f_vary_Reader_Int #[.pointer r, .int .i64 1] h17 fun v5 h30 => ∃ t41 : Int, v5 = .int .i64 t41 ∧ (
                  Store h30 ((⟨b1, 0, none⟩ : Addr).add 6) (.bool (t41 == (1 : Int))) fun h31 =>
                  K3 () h31)) (
                  K3 () h17)) fun K2 =>
            PIf ((bAnd .i64 t16a (4 : Int)) != (0 : Int)) (
              HCalls A P f_vary_Reader_Int #[.pointer r, .int .i64 5] h16 fun v6 h32 => ∃ t35 : Int, v6 = .int .i64 t35 ∧ (
              Store h32 ((⟨b1, 0, none⟩ : Addr).add 5) (.int .i64 t35) fun h33 =>
              K2 () h33)) (
              K2 () h16)) fun K1 =>
        PIf ((bAnd .i64 t16a (2 : Int)) != (0 : Int)) (
          HCalls A P f_vary_Reader_Int #[.pointer r, .int .i64 15] h15 fun v7 h34 => ∃ t29 : Int, v7 = .int .i64 t29 ∧ (
          Store h34 ((⟨b1, 0, none⟩ : Addr).add 4) (.int .i64 t29) fun h35 =>
          K1 () h35)) (
          K1 () h15)) fun K =>
    PIf ((bAnd .i64 t16a (1 : Int)) != (0 : Int)) (
      HCalls A P f_vary_Reader_Int #[.pointer r, .int .i64 500] h14 fun v8 h36 => ∃ t23 : Int, v8 = .int .i64 t23 ∧ (
      Store h36 ((⟨b1, 0, none⟩ : Addr).add 3) (.int .i64 t23) fun h37 =>
      K () h37)) (
      K () h14)))))

def a_event_read : Ann := .seq .none (.seq .none (.seq .none (.seqJ [] [0, 2, 3, 4] (.seq .none (.cond .none .none)) (.seqJ [] [0, 2, 3, 4] (.seq .none (.cond .none .none)) (.seqJ [] [0, 2, 3, 4] (.seq .none (.cond .none .none)) (.seqJ [] [0, 2, 3, 4] (.seq .none (.cond .none .none)) (.seqJ [] [2, 3] (.seq .none (.cond .none .none)) (.seq .none .none))))))))

theorem e_event_read (A : Amb) (r : Option Addr) (h : Heap) (R : Value → Heap → Prop) : F_event_read A r h R = semFun A P f_event_read a_event_read [.pointer r] h R := by kernel_rfl
theorem ok_event_read {A : Amb} {r : Option Addr} {h : Heap} {R : Value → Heap → Prop} (H : F_event_read A r h R) : HCalls A P f_event_read #[.pointer r] h R :=
  semFun_sound mixed (e_event_read A r h R ▸ H)

/-- (*wherry/vary.Reader).Take -/
def F_vary_Reader_Take (A : Amb) (r : Option Addr) (n : Int) (h : Heap) (R : Value → Heap → Prop) : Prop :=
  Join (fun (r1 : Bool × Unit) h1 =>
      PIf r1.1 (
        R (.string (⟨#[]⟩ : ByteArray)) h1) (
        Join (fun (r2 : Bool × Unit) h2 =>
            PIf r2.1 (
              At r fun a =>
              Store h2 a (.string (⟨#[]⟩ : ByteArray)) fun h3 =>
              At r fun a1 =>
              Store h3 (a1.add 1) (.bool true) fun h4 =>
              R (.string (⟨#[]⟩ : ByteArray)) h4) (
              At r fun a2 =>
              LoadS h2 a2 fun t34 =>
              Chk ((0 : Int) ≤ n ∧ n ≤ ((t34.size : Nat) : Int)) <|
              At r fun a3 =>
              LoadS h2 a3 fun t41 =>
              Chk ((0 : Int) ≤ n ∧ n ≤ ((t41.size : Nat) : Int)) <|
              At r fun a4 =>
              Store h2 a4 (.string (t41.extract n.toNat t41.size)) fun h5 =>
              R (.string (t34.extract 0 n.toNat)) h5)) fun K1 =>
          PIf (decide (n < (0 : Int))) (
            K1 (true, ()) h1) (
            At r fun a5 =>
            LoadS h1 a5 fun t21 =>
            K1 ((decide (n > (t21.size : Int))), ()) h1))) fun K =>
    PIf (r.isNone) (
      K (true, ()) h) (
      At r fun a6 =>
      LoadB h (a6.add 1) fun t12 =>
      K (t12, ()) h)

def a_vary_Reader_Take : Ann := .seq .none (.seq (.seq (.reg [(13, .one .bool)] [0, 1]) (.cond (.seq .none .none) .none)) (.seq (.seq (.reg [(24, .one .bool)] [0, 1]) (.cond (.seq .none (.seq .none .none)) .none)) (.seq .none (.seq .none (.seq .none .none)))))

theorem e_vary_Reader_Take (A : Amb) (r : Option Addr) (n : Int) (h : Heap) (R : Value → Heap → Prop) : F_vary_Reader_Take A r n h R = semFun A P f_vary_Reader_Take a_vary_Reader_Take [.pointer r, .int .i64 n] h R := by kernel_rfl
theorem ok_vary_Reader_Take {A : Amb} {r : Option Addr} {n : Int} {h : Heap} {R : Value → Heap → Prop} (H : F_vary_Reader_Take A r n h R) : HCalls A P f_vary_Reader_Take #[.pointer r, .int .i64 n] h R :=
  semFun_sound mixed (e_vary_Reader_Take A r n h R ▸ H)

/-- wherry/wherryref01.Put -/
def F_wherryref01_Put (A : Amb) (n : Int) (h : Heap) (R : Value → Heap → Prop) : Prop :=
  Loop (fun K (s : Int × Sl × Unit) h1 =>
    PIf (decide (s.1 < (128 : Int))) (
      New h1 (.cells #[.int .u8 (IntKind.wrap .u8 s.1)] t_uint8) fun b h2 =>
      RunK A P (Builtin.append_ #[t_sl_uint8, t_sl_uint8] t_sl_uint8 #[.slice s.2.1.p s.2.1.len s.2.1.cap, .slice (some (⟨b, 0, none⟩ : Addr)) 1 1]) h2 fun v h3 => ∃ t10 : Sl, v = .slice t10.p t10.len t10.cap ∧ (
      RunK A P (convert t_sl_uint8 t_string (.slice t10.p t10.len t10.cap)) h3 fun v1 h4 => ∃ t11 : ByteArray, v1 = .string t11 ∧ (
      R (.string t11) h4))) (
      New h1 (.cells #[.int .u8 (IntKind.wrap .u8 (IntKind.wrap .u64 ((s.1.tmod (128 : Int)) + (128 : Int))))] t_uint8) fun b1 h5 =>
      RunK A P (Builtin.append_ #[t_sl_uint8, t_sl_uint8] t_sl_uint8 #[.slice s.2.1.p s.2.1.len s.2.1.cap, .slice (some (⟨b1, 0, none⟩ : Addr)) 1 1]) h5 fun v2 h6 => ∃ t18 : Sl, v2 = .slice t18.p t18.len t18.cap ∧ (
      K ((IntKind.wrap .u64 (s.1.tdiv (128 : Int))), (⟨t18.p, t18.len, t18.cap⟩ : Sl), ()) h6))) (n, (⟨none, 0, 0⟩ : Sl), ()) h

def a_wherryref01_Put : Ann := .seq .none (.seq .none (.block (.loop [(0, .one (.int .u64)), (3, .one .sl)] [] (.block (.seq (.seq .none (.cond (.seq .none .none) .none)) (.seq .none .none))))))

theorem e_wherryref01_Put (A : Amb) (n : Int) (h : Heap) (R : Value → Heap → Prop) : F_wherryref01_Put A n h R = semFun A P f_wherryref01_Put a_wherryref01_Put [.int .u64 n] h R := by kernel_rfl
theorem ok_wherryref01_Put {A : Amb} {n : Int} {h : Heap} {R : Value → Heap → Prop} (H : F_wherryref01_Put A n h R) : HCalls A P f_wherryref01_Put #[.int .u64 n] h R :=
  semFun_sound mixed (e_wherryref01_Put A n h R ▸ H)

/-- wherry/wherryref13.Right -/
def F_wherryref13_Right (A : Amb) (e_0 : Int) (e_1 : Int) (e_2 : Int) (e_3 : Int) (e_4 : Int) (e_5 : Int) (e_6 : Bool) (e_7 : ByteArray) (h : Heap) (R : Value → Heap → Prop) : Prop :=
  New h (.cells #[.int .i64 e_0, .int .i64 e_1, .int .i64 e_2, .int .i64 e_3, .int .i64 e_4, .int .i64 e_5, .bool e_6, .string e_7] t_api_Event) fun b h1 =>
  LoadI .i64 h1 ((⟨b, 0, none⟩ : Addr).add 1) fun t9 =>
  HCalls A P f_wherryref13_fields #[.int .i64 t9] h1 fun v h2 => ∃ t10a : ByteArray, ∃ t10b : Bool, v = .tuple #[.string t10a, .bool t10b] ∧ (
  Join (fun (r : Bool × Unit) h3 =>
      PIf r.1 (
        R (.bool false) h3) (
        Join (fun (r1 : Bool × Unit) h4 =>
            PIf r1.1 (
              R (.bool false) h4) (
              PIf (sEq t10a (⟨#[112]⟩ : ByteArray)) (
                LoadS h4 ((⟨b, 0, none⟩ : Addr).add 7) fun t70 =>
                HCalls A P f_wherryref12_Decode #[.string t70] h4 fun v1 h5 => ∃ t71a_0 : Sl, ∃ t71a_1 : Int, ∃ t71b : Int, v1 = .tuple #[.agg #[.slice t71a_0.p t71a_0.len t71a_0.cap, .int .i64 t71a_1], .int .i64 t71b] ∧ (
                New h5 (.cells #[.slice none 0 0, .int .i64 0] t_api_Program) fun b1 h6 =>
                Store h6 (⟨b1, 0, none⟩ : Addr) (.slice t71a_0.p t71a_0.len t71a_0.cap) fun h7 =>
                Store h7 ((⟨b1, 0, none⟩ : Addr).add 1) (.int .i64 t71a_1) fun h8 =>
                R (.bool (t71b == (0 : Int))) h8)) (
                PIf (sEq t10a (⟨#[110]⟩ : ByteArray)) (
                  LoadS h4 ((⟨b, 0, none⟩ : Addr).add 7) fun t79 =>
                  HCalls A P f_wherryref12_Named #[.string t79] h4 fun v2 h9 => ∃ t80 : Bool, v2 = .bool t80 ∧ (
                  R (.bool t80) h9)) (
                  LoadS h4 ((⟨b, 0, none⟩ : Addr).add 7) fun t82 =>
                  R (.bool (sEq t82 (⟨#[]⟩ : ByteArray))) h4)))) fun K1 =>
          LoadI .i64 h3 ((⟨b, 0, none⟩ : Addr).add 3) fun t37 =>
          LoadI .i64 h3 (⟨b, 0, none⟩ : Addr) fun t39 =>
          HCalls A P f_wherryref13_in #[.string t10a, .string (⟨#[114]⟩ : ByteArray), .int .i64 t37, .int .i64 1, .int .i64 (IntKind.wrap .i64 (t39 - (1 : Int)))] h3 fun v3 h10 => ∃ t41 : Bool, v3 = .bool t41 ∧ (
          PIf (!t41) (
            K1 (true, ()) h10) (
            LoadI .i64 h10 ((⟨b, 0, none⟩ : Addr).add 4) fun t46 =>
            HCalls A P f_wherryref13_in #[.string t10a, .string (⟨#[115]⟩ : ByteArray), .int .i64 t46, .int .i64 0, .int .i64 15] h10 fun v4 h11 => ∃ t47 : Bool, v4 = .bool t47 ∧ (
            PIf (!t47) (
              K1 (true, ()) h11) (
              LoadI .i64 h11 ((⟨b, 0, none⟩ : Addr).add 5) fun t53 =>
              HCalls A P f_wherryref13_in #[.string t10a, .string (⟨#[116]⟩ : ByteArray), .int .i64 t53, .int .i64 1, .int .i64 5] h11 fun v5 h12 => ∃ t54 : Bool, v5 = .bool t54 ∧ (
              PIf (!t54) (
                K1 (true, ()) h12) (
                LoadB h12 ((⟨b, 0, none⟩ : Addr).add 6) fun t59 =>
                PIf t59 (
                  K1 ((!sEq t10a (⟨#[115, 117]⟩ : ByteArray)), ()) h12) (
                  K1 (false, ()) h12))))))))) fun K =>
    PIf (!t10b) (
      K (true, ()) h2) (
      LoadI .i64 h2 (⟨b, 0, none⟩ : Addr) fun t17 =>
      PIf (decide (t17 < (1 : Int))) (
        K (true, ()) h2) (
        LoadI .i64 h2 (⟨b, 0, none⟩ : Addr) fun t22 =>
        PIf (decide (t22 > (500 : Int))) (
          K (true, ()) h2) (
          LoadI .i64 h2 ((⟨b, 0, none⟩ : Addr).add 2) fun t27 =>
          PIf (decide (t27 < (0 : Int))) (
            K (true, ()) h2) (
            LoadI .i64 h2 ((⟨b, 0, none⟩ : Addr).add 2) fun t32 =>
            K ((decide (t32 > (1099511627776 : Int))), ()) h2)))))

def a_wherryref13_Right : Ann := .seq .none (.seq .none (.seq (.seq (.reg [(34, .one .bool)] [1, 3]) (.cond (.seq .none .none) .none)) (.seq (.seq (.reg [(64, .one .bool)] [1, 3]) (.cond (.seq .none .none) .none)) (.seq (.seq .none (.block (.seq .none (.cond (.seq .none (.seq .none .none)) (.seq .none (.cond (.seq .none .none) .none)))))) (.seq .none .none)))))

theorem e_wherryref13_Right (A : Amb) (e_0 : Int) (e_1 : Int) (e_2 : Int) (e_3 : Int) (e_4 : Int) (e_5 : Int) (e_6 : Bool) (e_7 : ByteArray) (h : Heap) (R : Value → Heap → Prop) : F_wherryref13_Right A e_0 e_1 e_2 e_3 e_4 e_5 e_6 e_7 h R = semFun A P f_wherryref13_Right a_wherryref13_Right [.agg #[.int .i64 e_0, .int .i64 e_1, .int .i64 e_2, .int .i64 e_3, .int .i64 e_4, .int .i64 e_5, .bool e_6, .string e_7]] h R := by kernel_rfl
theorem ok_wherryref13_Right {A : Amb} {e_0 : Int} {e_1 : Int} {e_2 : Int} {e_3 : Int} {e_4 : Int} {e_5 : Int} {e_6 : Bool} {e_7 : ByteArray} {h : Heap} {R : Value → Heap → Prop} (H : F_wherryref13_Right A e_0 e_1 e_2 e_3 e_4 e_5 e_6 e_7 h R) : HCalls A P f_wherryref13_Right #[.agg #[.int .i64 e_0, .int .i64 e_1, .int .i64 e_2, .int .i64 e_3, .int .i64 e_4, .int .i64 e_5, .bool e_6, .string e_7]] h R :=
  semFun_sound mixed (e_wherryref13_Right A e_0 e_1 e_2 e_3 e_4 e_5 e_6 e_7 h R ▸ H)

/-- wherry/wherryref13.fields -/
def F_wherryref13_fields (A : Amb) (kind : Int) (h : Heap) (R : Value → Heap → Prop) : Prop :=
  New h (.cells #[.string (⟨#[]⟩ : ByteArray), .string (⟨#[112]⟩ : ByteArray), .string (⟨#[]⟩ : ByteArray), .string (⟨#[114]⟩ : ByteArray), .string (⟨#[114]⟩ : ByteArray), .string (⟨#[114]⟩ : ByteArray), .string (⟨#[115, 117]⟩ : ByteArray), .string (⟨#[114, 116]⟩ : ByteArray), .string (⟨#[114, 116]⟩ : ByteArray), .string (⟨#[114, 116]⟩ : ByteArray), .string (⟨#[115]⟩ : ByteArray), .string (⟨#[114]⟩ : ByteArray), .string (⟨#[110]⟩ : ByteArray), .string (⟨#[]⟩ : ByteArray), .string (⟨#[]⟩ : ByteArray), .string (⟨#[]⟩ : ByteArray), .string (⟨#[]⟩ : ByteArray), .string (⟨#[]⟩ : ByteArray), .string (⟨#[]⟩ : ByteArray)] t_string) fun b h1 =>
  Join (fun (r : Bool × Unit) h2 =>
      PIf r.1 (
        R (.tuple #[.string (⟨#[]⟩ : ByteArray), .bool false]) h2) (
        Idx (some (⟨b, 0, none⟩ : Addr)) 19 kind fun a =>
        LoadS h2 (a.add (kind.toNat * 1)) fun t15 =>
        R (.tuple #[.string t15, .bool true]) h2)) fun K =>
    PIf (decide (kind < (1 : Int))) (
      K (true, ()) h1) (
      K ((decide (kind > (18 : Int))), ()) h1)

def a_wherryref13_fields : Ann := .seq .none (.seq .none (.seq (.seq (.reg [(11, .one .bool)] [0, 4]) (.cond (.seq .none .none) .none)) (.seq .none .none)))

theorem e_wherryref13_fields (A : Amb) (kind : Int) (h : Heap) (R : Value → Heap → Prop) : F_wherryref13_fields A kind h R = semFun A P f_wherryref13_fields a_wherryref13_fields [.int .i64 kind] h R := by kernel_rfl
theorem ok_wherryref13_fields {A : Amb} {kind : Int} {h : Heap} {R : Value → Heap → Prop} (H : F_wherryref13_fields A kind h R) : HCalls A P f_wherryref13_fields #[.int .i64 kind] h R :=
  semFun_sound mixed (e_wherryref13_fields A kind h R ▸ H)

/-- wherry/wherryref01.Fixed -/
def F_wherryref01_Fixed (A : Amb) (n : Int) (h : Heap) (R : Value → Heap → Prop) : Prop :=
  Loop (fun K (s : Sl × Int × Unit) h1 =>
    PIf (decide (s.2.1 ≥ (0 : Int))) (
      Chk ((0 : Int) ≤ s.2.1) <|
      New h1 (.cells #[.int .u8 (IntKind.wrap .u8 (bAnd .u64 (n.fdiv ((2 : Int) ^ (min s.2.1.toNat (IntKind.bits .u64)))) (255 : Int)))] t_uint8) fun b h2 =>
      RunK A P (Builtin.append_ #[t_sl_uint8, t_sl_uint8] t_sl_uint8 #[.slice s.1.p s.1.len s.1.cap, .slice (some (⟨b, 0, none⟩ : Addr)) 1 1]) h2 fun v h3 => ∃ t16 : Sl, v = .slice t16.p t16.len t16.cap ∧ (
      K ((⟨t16.p, t16.len, t16.cap⟩ : Sl), (IntKind.wrap .i64 (s.2.1 - (8 : Int))), ()) h3)) (
      RunK A P (convert t_sl_uint8 t_string (.slice s.1.p s.1.len s.1.cap)) h1 fun v1 h4 => ∃ t18 : ByteArray, v1 = .string t18 ∧ (
      R (.string t18) h4))) ((⟨none, 0, 0⟩ : Sl), 56, ()) h

def a_wherryref01_Fixed : Ann := .seq .none (.seq .none (.seq (.seq .none (.block (.loop [(3, .one .sl), (4, .one (.int .i64))] [0] (.seq (.seq .none (.cond .none .none)) (.seq (.block .none) .none))))) (.seq .none .none)))

theorem e_wherryref01_Fixed (A : Amb) (n : Int) (h : Heap) (R : Value → Heap → Prop) : F_wherryref01_Fixed A n h R = semFun A P f_wherryref01_Fixed a_wherryref01_Fixed [.int .u64 n] h R := by kernel_rfl
theorem ok_wherryref01_Fixed {A : Amb} {n : Int} {h : Heap} {R : Value → Heap → Prop} (H : F_wherryref01_Fixed A n h R) : HCalls A P f_wherryref01_Fixed #[.int .u64 n] h R :=
  semFun_sound mixed (e_wherryref01_Fixed A n h R ▸ H)

/-- wherry/wherryref02.Sum -/
def F_wherryref02_Sum (A : Amb) (s : ByteArray) (h : Heap) (R : Value → Heap → Prop) : Prop :=
  Loop (fun K (s1 : Int × Int × Unit) h1 =>
    PIf (decide (s1.2.1 < (s.size : Int))) (
      Chk ((0 : Int) ≤ s1.2.1 ∧ s1.2.1 < (s.size : Int)) <|
      Loop (fun K1 (s2 : Int × Int × Unit) h2 =>
        PIf (decide (s2.2.1 < (8 : Int))) (
          Join (fun (s3 : Int × Unit) h3 =>
              K1 (s3.1, (IntKind.wrap .i64 (s2.2.1 + (1 : Int))), ()) h3) fun K2 =>
            PIf ((s2.1.tmod (2 : Int)) == (1 : Int)) (
              K2 ((bXor .u32 (IntKind.wrap .u32 (s2.1.tdiv (2 : Int))) (3988292384 : Int)), ()) h2) (
              K2 ((IntKind.wrap .u32 (s2.1.tdiv (2 : Int))), ()) h2)) (
          K (s2.1, (IntKind.wrap .i64 (s1.2.1 + (1 : Int))), ()) h2)) ((bXor .u32 s1.1 (IntKind.wrap .u32 (sAt s s1.2.1))), 0, ()) h1) (
      R (.int .u32 (IntKind.wrap .u32 ((4294967295 : Int) - s1.1))) h1)) (4294967295, 0, ()) h

def a_wherryref02_Sum : Ann := .seq .none (.seq .none (.seq (.seq .none (.block (.loop [(3, .one (.int .u32)), (4, .one (.int .i64))] [0] (.seq (.seq .none (.cond .none .none)) (.seq (.block (.seq .none (.seq .none (.block (.loop [(3, .one (.int .u32)), (5, .one (.int .i64))] [0, 4] (.seq (.seq .none (.cond .none .none)) (.seq (.blockJ [(3, .one (.int .u32))] [0, 4, 5] (.seq .none (.seq .none (.seq .none (.cond .none .none))))) .none))))))) .none))))) (.seq .none .none)))

theorem e_wherryref02_Sum (A : Amb) (s : ByteArray) (h : Heap) (R : Value → Heap → Prop) : F_wherryref02_Sum A s h R = semFun A P f_wherryref02_Sum a_wherryref02_Sum [.string s] h R := by kernel_rfl
theorem ok_wherryref02_Sum {A : Amb} {s : ByteArray} {h : Heap} {R : Value → Heap → Prop} (H : F_wherryref02_Sum A s h R) : HCalls A P f_wherryref02_Sum #[.string s] h R :=
  semFun_sound mixed (e_wherryref02_Sum A s h R ▸ H)

/-- (*wherry/wherryref01.Reader).Num -/
def F_wherryref01_Reader_Num (A : Amb) (r : Option Addr) (h : Heap) (R : Value → Heap → Prop) : Prop :=
  At r fun a =>
  LoadS h a fun t9 =>
  HCalls A P f_wherryref01_Get #[.string t9] h fun v h1 => ∃ t10a : Int, ∃ t10b : Int, v = .tuple #[.int .u64 t10a, .int .i64 t10b] ∧ (
  Join (fun (r1 : Bool × Unit) h2 =>
      PIf r1.1 (
        HCalls A P f_wherryref01_Reader_fail #[.pointer r] h2 fun v1 h3 => v1 = .tuple #[] ∧ (
        R (.int .u64 0) h3)) (
        At r fun a1 =>
        LoadS h2 a1 fun t27 =>
        Chk ((0 : Int) ≤ t10b ∧ t10b ≤ ((t27.size : Nat) : Int)) <|
        At r fun a2 =>
        Store h2 a2 (.string (t27.extract t10b.toNat t27.size)) fun h4 =>
        R (.int .u64 t10a) h4)) fun K =>
    At r fun a3 =>
    LoadB h1 (a3.add 1) fun t16 =>
    PIf t16 (
      K (true, ()) h1) (
      K ((t10b == (0 : Int)), ()) h1))

def a_wherryref01_Reader_Num : Ann := .seq .none (.seq .none (.seq (.seq (.reg [(20, .one .bool)] [0, 3, 4]) (.cond (.seq .none (.seq .none .none)) .none)) (.seq .none (.seq .none .none))))

theorem e_wherryref01_Reader_Num (A : Amb) (r : Option Addr) (h : Heap) (R : Value → Heap → Prop) : F_wherryref01_Reader_Num A r h R = semFun A P f_wherryref01_Reader_Num a_wherryref01_Reader_Num [.pointer r] h R := by kernel_rfl
theorem ok_wherryref01_Reader_Num {A : Amb} {r : Option Addr} {h : Heap} {R : Value → Heap → Prop} (H : F_wherryref01_Reader_Num A r h R) : HCalls A P f_wherryref01_Reader_Num #[.pointer r] h R :=
  semFun_sound mixed (e_wherryref01_Reader_Num A r h R ▸ H)

/-- (*wherry/wherryref01.Reader).fail -/
def F_wherryref01_Reader_fail (A : Amb) (r : Option Addr) (h : Heap) (R : Value → Heap → Prop) : Prop :=
  At r fun a =>
  Store h a (.string (⟨#[]⟩ : ByteArray)) fun h1 =>
  At r fun a1 =>
  Store h1 (a1.add 1) (.bool true) fun h2 =>
  R (.tuple #[]) h2

def a_wherryref01_Reader_fail : Ann := .seq .none .none

theorem e_wherryref01_Reader_fail (A : Amb) (r : Option Addr) (h : Heap) (R : Value → Heap → Prop) : F_wherryref01_Reader_fail A r h R = semFun A P f_wherryref01_Reader_fail a_wherryref01_Reader_fail [.pointer r] h R := by kernel_rfl
theorem ok_wherryref01_Reader_fail {A : Amb} {r : Option Addr} {h : Heap} {R : Value → Heap → Prop} (H : F_wherryref01_Reader_fail A r h R) : HCalls A P f_wherryref01_Reader_fail #[.pointer r] h R :=
  semFun_sound mixed (e_wherryref01_Reader_fail A r h R ▸ H)

/-- (*wherry/wherryref01.Reader).Take -/
def F_wherryref01_Reader_Take (A : Amb) (r : Option Addr) (n : Int) (h : Heap) (R : Value → Heap → Prop) : Prop :=
  Join (fun (r1 : Bool × Unit) h1 =>
      PIf r1.1 (
        HCalls A P f_wherryref01_Reader_fail #[.pointer r] h1 fun v h2 => v = .tuple #[] ∧ (
        R (.string (⟨#[]⟩ : ByteArray)) h2)) (
        At r fun a =>
        LoadS h1 a fun t28 =>
        Chk ((0 : Int) ≤ n ∧ n ≤ ((t28.size : Nat) : Int)) <|
        At r fun a1 =>
        LoadS h1 a1 fun t35 =>
        Chk ((0 : Int) ≤ n ∧ n ≤ ((t35.size : Nat) : Int)) <|
        At r fun a2 =>
        Store h1 a2 (.string (t35.extract n.toNat t35.size)) fun h3 =>
        R (.string (t28.extract 0 n.toNat)) h3)) fun K =>
    At r fun a3 =>
    LoadB h (a3.add 1) fun t9 =>
    PIf t9 (
      K (true, ()) h) (
      PIf (decide (n < (0 : Int))) (
        K (true, ()) h) (
        At r fun a4 =>
        LoadS h a4 fun t19 =>
        K ((decide (n > (t19.size : Int))), ()) h))

def a_wherryref01_Reader_Take : Ann := .seq .none (.seq (.seq (.reg [(22, .one .bool)] [0, 1]) (.cond (.seq .none (.seq .none .none)) .none)) (.seq .none (.seq .none (.seq .none .none))))

theorem e_wherryref01_Reader_Take (A : Amb) (r : Option Addr) (n : Int) (h : Heap) (R : Value → Heap → Prop) : F_wherryref01_Reader_Take A r n h R = semFun A P f_wherryref01_Reader_Take a_wherryref01_Reader_Take [.pointer r, .int .i64 n] h R := by kernel_rfl
theorem ok_wherryref01_Reader_Take {A : Amb} {r : Option Addr} {n : Int} {h : Heap} {R : Value → Heap → Prop} (H : F_wherryref01_Reader_Take A r n h R) : HCalls A P f_wherryref01_Reader_Take #[.pointer r, .int .i64 n] h R :=
  semFun_sound mixed (e_wherryref01_Reader_Take A r n h R ▸ H)

/-- wherry/event.Check$1 -/
def F_event_Check_1 (A : Amb) (n : Int) (low : Int) (high : Int) (bit : Int) (c0 : Option Addr) (h : Heap) (R : Value → Heap → Prop) : Prop :=
  At c0 fun a =>
  LoadI .i64 h a fun t10 =>
  PIf ((bAnd .i64 t10 bit) == (0 : Int)) (
    R (.bool (n == (0 : Int))) h) (
    PIf (decide (n ≥ low)) (
      R (.bool (decide (n ≤ high))) h) (
      R (.bool false) h))

def a_event_Check_1 : Ann := .seq .none (.seq (.seq .none (.cond (.seq .none .none) .none)) (.seq .none .none))

theorem e_event_Check_1 (A : Amb) (n : Int) (low : Int) (high : Int) (bit : Int) (c0 : Option Addr) (h : Heap) (R : Value → Heap → Prop) : F_event_Check_1 A n low high bit c0 h R = semFun A P f_event_Check_1 a_event_Check_1 [.int .i64 n, .int .i64 low, .int .i64 high, .int .i64 bit, .pointer c0] h R := by kernel_rfl
theorem ok_event_Check_1 {A : Amb} {n : Int} {low : Int} {high : Int} {bit : Int} {c0 : Option Addr} {h : Heap} {R : Value → Heap → Prop} (H : F_event_Check_1 A n low high bit c0 h R) : HCalls A P f_event_Check_1 #[.int .i64 n, .int .i64 low, .int .i64 high, .int .i64 bit, .pointer c0] h R :=
  semFun_sound mixed (e_event_Check_1 A n low high bit c0 h R ▸ H)

/-- wherry/prog.Decode -/
def F_prog_Decode (A : Amb) (s : ByteArray) (h : Heap) (R : Value → Heap → Prop) : Prop :=
  New h (.cells #[.slice none 0 0, .int .i64 0] t_api_Program) fun b h1 =>
  HCalls A P f_vary_Read #[.string s] h1 fun v h2 => ∃ t9 : Option Addr, v = .pointer t9 ∧ (
  HCalls A P f_vary_Reader_Int #[.pointer t9, .int .i64 16000] h2 fun v1 h3 => ∃ t11 : Int, v1 = .int .i64 t11 ∧ (
  New h3 (.cells #[.slice none 0 0, .int .i64 0] t_api_Program) fun b1 h4 =>
  Store h4 (⟨b1, 0, none⟩ : Addr) (.slice none 0 0) fun h5 =>
  Store h5 ((⟨b1, 0, none⟩ : Addr).add 1) (.int .i64 t11) fun h6 =>
  HCalls A P f_vary_Reader_Int #[.pointer t9, .int .i64 16] h6 fun v2 h7 => ∃ t14 : Int, v2 = .int .i64 t14 ∧ (
  Loop (fun K (s1 : Int × Unit) h8 =>
    PIf (decide (s1.1 > (0 : Int))) (
      HCalls A P f_vary_Reader_Int #[.pointer t9, .int .i64 3] h8 fun v3 h9 => ∃ t20 : Int, v3 = .int .i64 t20 ∧ (
      New h9 (.cells #[.int .i64 0, .string (⟨#[]⟩ : ByteArray), .string (⟨#[]⟩ : ByteArray), .int .i64 0, .int .i64 0, .int .i64 0] t_api_Step) fun b2 h10 =>
      Store h10 (⟨b2, 0, none⟩ : Addr) (.int .i64 t20) fun h11 =>
      Store h11 ((⟨b2, 0, none⟩ : Addr).add 1) (.string (⟨#[]⟩ : ByteArray)) fun h12 =>
      Store h12 ((⟨b2, 0, none⟩ : Addr).add 2) (.string (⟨#[]⟩ : ByteArray)) fun h13 =>
      Store h13 ((⟨b2, 0, none⟩ : Addr).add 3) (.int .i64 0) fun h14 =>
      Store h14 ((⟨b2, 0, none⟩ : Addr).add 4) (.int .i64 0) fun h15 =>
      Store h15 ((⟨b2, 0, none⟩ : Addr).add 5) (.int .i64 0) fun h16 =>
      LoadI .i64 h16 (⟨b2, 0, none⟩ : Addr) fun t23 =>
      Join (fun (s2 : Unit) h17 =>
          LoadL h17 (⟨b1, 0, none⟩ : Addr) fun t49 =>
          LoadI .i64 h17 (⟨b2, 0, none⟩ : Addr) fun t50_0 =>
          LoadS h17 ((⟨b2, 0, none⟩ : Addr).add 1) fun t50_1 =>
          LoadS h17 ((⟨b2, 0, none⟩ : Addr).add 2) fun t50_2 =>
          LoadI .i64 h17 ((⟨b2, 0, none⟩ : Addr).add 3) fun t50_3 =>
          LoadI .i64 h17 ((⟨b2, 0, none⟩ : Addr).add 4) fun t50_4 =>
          LoadI .i64 h17 ((⟨b2, 0, none⟩ : Addr).add 5) fun t50_5 =>
          New h17 (.cells #[.int .i64 t50_0, .string t50_1, .string t50_2, .int .i64 t50_3, .int .i64 t50_4, .int .i64 t50_5] t_api_Step) fun b3 h18 =>
          RunK A P (Builtin.append_ #[t_sl_api_Step, t_sl_api_Step] t_sl_api_Step #[.slice t49.p t49.len t49.cap, .slice (some (⟨b3, 0, none⟩ : Addr)) 1 1]) h18 fun v4 h19 => ∃ t52 : Sl, v4 = .slice t52.p t52.len t52.cap ∧ (
          Store h19 (⟨b1, 0, none⟩ : Addr) (.slice t52.p t52.len t52.cap) fun h20 =>
          K ((IntKind.wrap .i64 (s1.1 - (1 : Int))), ()) h20)) fun K1 =>
        PIf (t23 == (1 : Int)) (
          HCalls A P f_vary_Reader_Text #[.pointer t9] h16 fun v5 h21 => ∃ t27 : ByteArray, v5 = .string t27 ∧ (
          HCalls A P f_vary_Reader_Int #[.pointer t9, .int .i64 5] h21 fun v6 h22 => ∃ t29 : Int, v6 = .int .i64 t29 ∧ (
          Store h22 ((⟨b2, 0, none⟩ : Addr).add 1) (.string t27) fun h23 =>
          Store h23 ((⟨b2, 0, none⟩ : Addr).add 3) (.int .i64 t29) fun h24 =>
          HCalls A P f_vary_Reader_Text #[.pointer t9] h24 fun v7 h25 => ∃ t33 : ByteArray, v7 = .string t33 ∧ (
          HCalls A P f_vary_Reader_Int #[.pointer t9, .int .i64 5] h25 fun v8 h26 => ∃ t35 : Int, v8 = .int .i64 t35 ∧ (
          Store h26 ((⟨b2, 0, none⟩ : Addr).add 2) (.string t33) fun h27 =>
          Store h27 ((⟨b2, 0, none⟩ : Addr).add 4) (.int .i64 t35) fun h28 =>
          K1 () h28))))) (
          PIf (t23 == (2 : Int)) (
            HCalls A P f_vary_Reader_Int #[.pointer t9, .int .i64 1000] h16 fun v9 h29 => ∃ t41 : Int, v9 = .int .i64 t41 ∧ (
            Store h29 ((⟨b2, 0, none⟩ : Addr).add 5) (.int .i64 t41) fun h30 =>
            K1 () h30)) (
            PIf (t23 == (3 : Int)) (
              HCalls A P f_vary_Reader_Text #[.pointer t9] h16 fun v10 h31 => ∃ t46 : ByteArray, v10 = .string t46 ∧ (
              Store h31 ((⟨b2, 0, none⟩ : Addr).add 1) (.string t46) fun h32 =>
              K1 () h32)) (
              K1 () h16))))) (
      Join (fun (r : Bool × Unit) h33 =>
          PIf r.1 (
            Store h33 (⟨b, 0, none⟩ : Addr) (.slice none 0 0) fun h34 =>
            Store h34 ((⟨b, 0, none⟩ : Addr).add 1) (.int .i64 0) fun h35 =>
            LoadL h35 (⟨b, 0, none⟩ : Addr) fun res_0 =>
            LoadI .i64 h35 ((⟨b, 0, none⟩ : Addr).add 1) fun res_1 =>
            R (.tuple #[.agg #[.slice res_0.p res_0.len res_0.cap, .int .i64 res_1], .int .i64 60]) h35) (
            LoadL h33 (⟨b1, 0, none⟩ : Addr) fun t63_0 =>
            LoadI .i64 h33 ((⟨b1, 0, none⟩ : Addr).add 1) fun t63_1 =>
            Store h33 (⟨b, 0, none⟩ : Addr) (.slice t63_0.p t63_0.len t63_0.cap) fun h36 =>
            Store h36 ((⟨b, 0, none⟩ : Addr).add 1) (.int .i64 t63_1) fun h37 =>
            LoadL h37 (⟨b, 0, none⟩ : Addr) fun res_0_1 =>
            LoadI .i64 h37 ((⟨b, 0, none⟩ : Addr).add 1) fun res_1_1 =>
            R (.tuple #[.agg #[.slice res_0_1.p res_0_1.len res_0_1.cap, .int .i64 res_1_1], .int .i64 0]) h37)) fun K2 =>
        HCalls A P f_vary_Reader_End #[.pointer t9] h8 fun v11 h38 => ∃ t55 : Bool, v11 = .bool t55 ∧ (
        PIf (!t55) (
          K2 (true, ()) h38) (
          LoadL h38 (⟨b1, 0, none⟩ : Addr) fun t58_0 =>
          LoadI .i64 h38 ((⟨b1, 0, none⟩ : Addr).add 1) fun t58_1 =>
          HCalls A P f_prog_Check #[.agg #[.slice t58_0.p t58_0.len t58_0.cap, .int .i64 t58_1]] h38 fun v12 h39 => ∃ t59 : Int, v12 = .int .i64 t59 ∧ (
          K2 ((t59 != (0 : Int)), ()) h39))))) (t14, ()) h7)))

def a_prog_Decode : Ann := .seq .none (.seq .none (.seq .none (.seq (.seq .none (.block (.loop [(6, .one (.int .i64))] [2, 4, 5] (.seq (.seq .none (.cond .none .none)) (.seq (.block (.seq .none (.seq (.seq .none (.blockJ [] [2, 4, 5, 6, 7] (.seq .none (.cond (.seq .none .none) (.seq .none (.cond .none (.seq .none (.cond .none .none)))))))) .none))) .none))))) (.seq (.seq (.reg [(61, .one .bool)] [2, 5]) (.cond (.seq .none .none) .none)) (.seq .none .none)))))

theorem e_prog_Decode (A : Amb) (s : ByteArray) (h : Heap) (R : Value → Heap → Prop) : F_prog_Decode A s h R = semFun A P f_prog_Decode a_prog_Decode [.string s] h R := by kernel_rfl
theorem ok_prog_Decode {A : Amb} {s : ByteArray} {h : Heap} {R : Value → Heap → Prop} (H : F_prog_Decode A s h R) : HCalls A P f_prog_Decode #[.string s] h R :=
  semFun_sound mixed (e_prog_Decode A s h R ▸ H)

/-- wherry/wherryref13.in -/
def F_wherryref13_in (A : Amb) (f : ByteArray) (field : ByteArray) (n : Int) (low : Int) (high : Int) (h : Heap) (R : Value → Heap → Prop) : Prop :=
  HCalls A P f_strings_Contains #[.string f, .string field] h fun v h1 => ∃ t13 : Bool, v = .bool t13 ∧ (
  PIf (!t13) (
    R (.bool (n == (0 : Int))) h1) (
    PIf (decide (n ≥ low)) (
      R (.bool (decide (n ≤ high))) h1) (
      R (.bool false) h1)))

def a_wherryref13_in : Ann := .seq .none (.seq (.seq .none (.cond (.seq .none .none) .none)) (.seq .none .none))

theorem e_wherryref13_in (A : Amb) (f : ByteArray) (field : ByteArray) (n : Int) (low : Int) (high : Int) (h : Heap) (R : Value → Heap → Prop) : F_wherryref13_in A f field n low high h R = semFun A P f_wherryref13_in a_wherryref13_in [.string f, .string field, .int .i64 n, .int .i64 low, .int .i64 high] h R := by kernel_rfl
theorem ok_wherryref13_in {A : Amb} {f : ByteArray} {field : ByteArray} {n : Int} {low : Int} {high : Int} {h : Heap} {R : Value → Heap → Prop} (H : F_wherryref13_in A f field n low high h R) : HCalls A P f_wherryref13_in #[.string f, .string field, .int .i64 n, .int .i64 low, .int .i64 high] h R :=
  semFun_sound mixed (e_wherryref13_in A f field n low high h R ▸ H)

/-- wherry/wherryref12.Decode -/
def F_wherryref12_Decode (A : Amb) (s : ByteArray) (h : Heap) (R : Value → Heap → Prop) : Prop :=
  New h (.cells #[.slice none 0 0, .int .i64 0] t_api_Program) fun b h1 =>
  New h1 (.cells #[.string s, .bool false] t_wherryref01_Reader) fun b1 h2 =>
  New h2 (.cells #[.slice none 0 0, .int .i64 0] t_api_Program) fun b2 h3 =>
  HCalls A P f_wherryref01_Reader_Int #[.pointer (some (⟨b1, 0, none⟩ : Addr)), .int .i64 1073741824] h3 fun v h4 => ∃ t15 : Int, v = .int .i64 t15 ∧ (
  Store h4 ((⟨b2, 0, none⟩ : Addr).add 1) (.int .i64 t15) fun h5 =>
  HCalls A P f_wherryref01_Reader_Int #[.pointer (some (⟨b1, 0, none⟩ : Addr)), .int .i64 16] h5 fun v1 h6 => ∃ t18 : Int, v1 = .int .i64 t18 ∧ (
  Loop (fun K (s1 : Int × Unit) h7 =>
    PIf (decide (s1.1 < t18)) (
      New h7 (.cells #[.int .i64 0, .string (⟨#[]⟩ : ByteArray), .string (⟨#[]⟩ : ByteArray), .int .i64 0, .int .i64 0, .int .i64 0] t_api_Step) fun b3 h8 =>
      HCalls A P f_wherryref01_Reader_Int #[.pointer (some (⟨b1, 0, none⟩ : Addr)), .int .i64 9] h8 fun v2 h9 => ∃ t25 : Int, v2 = .int .i64 t25 ∧ (
      Store h9 (⟨b3, 0, none⟩ : Addr) (.int .i64 t25) fun h10 =>
      Join (fun (s2 : Unit) h11 =>
          LoadL h11 (⟨b2, 0, none⟩ : Addr) fun t52 =>
          LoadI .i64 h11 (⟨b3, 0, none⟩ : Addr) fun t53_0 =>
          LoadS h11 ((⟨b3, 0, none⟩ : Addr).add 1) fun t53_1 =>
          LoadS h11 ((⟨b3, 0, none⟩ : Addr).add 2) fun t53_2 =>
          LoadI .i64 h11 ((⟨b3, 0, none⟩ : Addr).add 3) fun t53_3 =>
          LoadI .i64 h11 ((⟨b3, 0, none⟩ : Addr).add 4) fun t53_4 =>
          LoadI .i64 h11 ((⟨b3, 0, none⟩ : Addr).add 5) fun t53_5 =>
          New h11 (.cells #[.int .i64 t53_0, .string t53_1, .string t53_2, .int .i64 t53_3, .int .i64 t53_4, .int .i64 t53_5] t_api_Step) fun b4 h12 =>
          RunK A P (Builtin.append_ #[t_sl_api_Step, t_sl_api_Step] t_sl_api_Step #[.slice t52.p t52.len t52.cap, .slice (some (⟨b4, 0, none⟩ : Addr)) 1 1]) h12 fun v3 h13 => ∃ t55 : Sl, v3 = .slice t55.p t55.len t55.cap ∧ (
          Store h13 (⟨b2, 0, none⟩ : Addr) (.slice t55.p t55.len t55.cap) fun h14 =>
          K ((IntKind.wrap .i64 (s1.1 + (1 : Int))), ()) h14)) fun K1 =>
        LoadI .i64 h10 (⟨b3, 0, none⟩ : Addr) fun t28 =>
        PIf (t28 == (1 : Int)) (
          HCalls A P f_wherryref01_Reader_Text #[.pointer (some (⟨b1, 0, none⟩ : Addr))] h10 fun v4 h15 => ∃ t31 : ByteArray, v4 = .string t31 ∧ (
          Store h15 ((⟨b3, 0, none⟩ : Addr).add 1) (.string t31) fun h16 =>
          HCalls A P f_wherryref01_Reader_Int #[.pointer (some (⟨b1, 0, none⟩ : Addr)), .int .i64 9] h16 fun v5 h17 => ∃ t34 : Int, v5 = .int .i64 t34 ∧ (
          Store h17 ((⟨b3, 0, none⟩ : Addr).add 3) (.int .i64 t34) fun h18 =>
          HCalls A P f_wherryref01_Reader_Text #[.pointer (some (⟨b1, 0, none⟩ : Addr))] h18 fun v6 h19 => ∃ t37 : ByteArray, v6 = .string t37 ∧ (
          Store h19 ((⟨b3, 0, none⟩ : Addr).add 2) (.string t37) fun h20 =>
          HCalls A P f_wherryref01_Reader_Int #[.pointer (some (⟨b1, 0, none⟩ : Addr)), .int .i64 9] h20 fun v7 h21 => ∃ t40 : Int, v7 = .int .i64 t40 ∧ (
          Store h21 ((⟨b3, 0, none⟩ : Addr).add 4) (.int .i64 t40) fun h22 =>
          K1 () h22))))) (
          LoadI .i64 h10 (⟨b3, 0, none⟩ : Addr) fun t43 =>
          PIf (t43 == (2 : Int)) (
            HCalls A P f_wherryref01_Reader_Int #[.pointer (some (⟨b1, 0, none⟩ : Addr)), .int .i64 9999] h10 fun v8 h23 => ∃ t46 : Int, v8 = .int .i64 t46 ∧ (
            Store h23 ((⟨b3, 0, none⟩ : Addr).add 5) (.int .i64 t46) fun h24 =>
            K1 () h24)) (
            HCalls A P f_wherryref01_Reader_Text #[.pointer (some (⟨b1, 0, none⟩ : Addr))] h10 fun v9 h25 => ∃ t49 : ByteArray, v9 = .string t49 ∧ (
            Store h25 ((⟨b3, 0, none⟩ : Addr).add 1) (.string t49) fun h26 =>
            K1 () h26))))) (
      LoadL h7 (⟨b2, 0, none⟩ : Addr) fun t58_0 =>
      LoadI .i64 h7 ((⟨b2, 0, none⟩ : Addr).add 1) fun t58_1 =>
      HCalls A P f_wherryref12_Encode #[.agg #[.slice t58_0.p t58_0.len t58_0.cap, .int .i64 t58_1]] h7 fun v10 h27 => ∃ t59a : ByteArray, ∃ t59b : Int, v10 = .tuple #[.string t59a, .int .i64 t59b] ∧ (
      Join (fun (r : Bool × Unit) h28 =>
          PIf r.1 (
            Store h28 (⟨b, 0, none⟩ : Addr) (.slice none 0 0) fun h29 =>
            Store h29 ((⟨b, 0, none⟩ : Addr).add 1) (.int .i64 0) fun h30 =>
            LoadL h30 (⟨b, 0, none⟩ : Addr) fun res_0 =>
            LoadI .i64 h30 ((⟨b, 0, none⟩ : Addr).add 1) fun res_1 =>
            R (.tuple #[.agg #[.slice res_0.p res_0.len res_0.cap, .int .i64 res_1], .int .i64 60]) h30) (
            LoadL h28 (⟨b2, 0, none⟩ : Addr) fun t75_0 =>
            LoadI .i64 h28 ((⟨b2, 0, none⟩ : Addr).add 1) fun t75_1 =>
            Store h28 (⟨b, 0, none⟩ : Addr) (.slice t75_0.p t75_0.len t75_0.cap) fun h31 =>
            Store h31 ((⟨b, 0, none⟩ : Addr).add 1) (.int .i64 t75_1) fun h32 =>
            LoadL h32 (⟨b, 0, none⟩ : Addr) fun res_0_1 =>
            LoadI .i64 h32 ((⟨b, 0, none⟩ : Addr).add 1) fun res_1_1 =>
            R (.tuple #[.agg #[.slice res_0_1.p res_0_1.len res_0_1.cap, .int .i64 res_1_1], .int .i64 0]) h32)) fun K2 =>
        PIf (t59b != (0 : Int)) (
          K2 (true, ()) h27) (
          HCalls A P f_wherryref01_Reader_End #[.pointer (some (⟨b1, 0, none⟩ : Addr))] h27 fun v11 h33 => ∃ t66 : Bool, v11 = .bool t66 ∧ (
          PIf (!t66) (
            K2 (true, ()) h33) (
            K2 ((!sEq t59a s), ()) h33)))))) (0, ()) h6))

def a_wherryref12_Decode : Ann := .seq .none (.seq .none (.seq .none (.seq .none (.seq .none (.seq (.seq .none (.block (.loop [(7, .one (.int .i64))] [0, 2, 4, 5, 6] (.seq (.seq .none (.cond .none .none)) (.seq (.block (.seq .none (.seq .none (.seqJ [] [0, 2, 4, 5, 6, 7, 8] (.seq .none (.cond (.seq .none (.seq .none (.seq .none .none))) (.seq .none (.cond .none .none)))) .none)))) .none))))) (.seq .none (.seq (.seq (.reg [(73, .one .bool)] [2, 5]) (.cond (.seq .none .none) .none)) (.seq .none .none))))))))

theorem e_wherryref12_Decode (A : Amb) (s : ByteArray) (h : Heap) (R : Value → Heap → Prop) : F_wherryref12_Decode A s h R = semFun A P f_wherryref12_Decode a_wherryref12_Decode [.string s] h R := by kernel_rfl
theorem ok_wherryref12_Decode {A : Amb} {s : ByteArray} {h : Heap} {R : Value → Heap → Prop} (H : F_wherryref12_Decode A s h R) : HCalls A P f_wherryref12_Decode #[.string s] h R :=
  semFun_sound mixed (e_wherryref12_Decode A s h R ▸ H)

/-- wherry/prog.Check -/
def F_prog_Check (A : Amb) (p_0 : Sl) (p_1 : Int) (h : Heap) (R : Value → Heap → Prop) : Prop :=
  New h (.cells #[.slice p_0.p p_0.len p_0.cap, .int .i64 p_1] t_api_Program) fun b h1 =>
  Join (fun (r : Bool × Unit) h2 =>
      PIf r.1 (
        R (.int .i64 130) h2) (
        LoadL h2 (⟨b, 0, none⟩ : Addr) fun t16 =>
        Loop (fun K1 (s : Int × Unit) h3 =>
          PIf (decide (s.1 < ((t16.len : Nat) : Int))) (
            Idx t16.p t16.len s.1 fun a =>
            LoadI .i64 h3 (a.add (s.1.toNat * 6)) fun t21_0 =>
            LoadS h3 ((a.add (s.1.toNat * 6)).add 1) fun t21_1 =>
            LoadS h3 ((a.add (s.1.toNat * 6)).add 2) fun t21_2 =>
            LoadI .i64 h3 ((a.add (s.1.toNat * 6)).add 3) fun t21_3 =>
            LoadI .i64 h3 ((a.add (s.1.toNat * 6)).add 4) fun t21_4 =>
            LoadI .i64 h3 ((a.add (s.1.toNat * 6)).add 5) fun t21_5 =>
            New h3 (.cells #[.int .i64 0, .string (⟨#[]⟩ : ByteArray), .string (⟨#[]⟩ : ByteArray), .int .i64 0, .int .i64 0, .int .i64 0] t_api_Step) fun b1 h4 =>
            Store h4 (⟨b1, 0, none⟩ : Addr) (.int .i64 t21_0) fun h5 =>
            Store h5 ((⟨b1, 0, none⟩ : Addr).add 1) (.string t21_1) fun h6 =>
            Store h6 ((⟨b1, 0, none⟩ : Addr).add 2) (.string t21_2) fun h7 =>
            Store h7 ((⟨b1, 0, none⟩ : Addr).add 3) (.int .i64 t21_3) fun h8 =>
            Store h8 ((⟨b1, 0, none⟩ : Addr).add 4) (.int .i64 t21_4) fun h9 =>
            Store h9 ((⟨b1, 0, none⟩ : Addr).add 5) (.int .i64 t21_5) fun h10 =>
            LoadI .i64 h10 (⟨b1, 0, none⟩ : Addr) fun t22_0 =>
            LoadS h10 ((⟨b1, 0, none⟩ : Addr).add 1) fun t22_1 =>
            LoadS h10 ((⟨b1, 0, none⟩ : Addr).add 2) fun t22_2 =>
            LoadI .i64 h10 ((⟨b1, 0, none⟩ : Addr).add 3) fun t22_3 =>
            LoadI .i64 h10 ((⟨b1, 0, none⟩ : Addr).add 4) fun t22_4 =>
            LoadI .i64 h10 ((⟨b1, 0, none⟩ : Addr).add 5) fun t22_5 =>
            HCalls A P f_prog_right #[.agg #[.int .i64 t22_0, .string t22_1, .string t22_2, .int .i64 t22_3, .int .i64 t22_4, .int .i64 t22_5]] h10 fun v h11 => ∃ t23 : Bool, v = .bool t23 ∧ (
            PIf (!t23) (
              R (.int .i64 130) h11) (
              K1 ((IntKind.wrap .i64 (s.1 + (1 : Int))), ()) h11))) (
            R (.int .i64 0) h3)) (0, ()) h2)) fun K =>
    LoadL h1 (⟨b, 0, none⟩ : Addr) fun t6 =>
    PIf (decide (((t6.len : Nat) : Int) > (16 : Int))) (
      K (true, ()) h1) (
      LoadI .i64 h1 ((⟨b, 0, none⟩ : Addr).add 1) fun t11 =>
      HCalls A P f_prog_within #[.int .i64 t11, .int .i64 0, .int .i64 16000] h1 fun v1 h12 => ∃ t12 : Bool, v1 = .bool t12 ∧ (
      K ((!t12), ()) h12))

def a_prog_Check : Ann := .seq .none (.seq (.seq (.reg [(14, .one .bool)] [1]) (.cond (.seq .none .none) .none)) (.seq (.seq .none (.block (.loop [(18, .one (.int .i64))] [16, 17] (.seq .none (.seq (.cond .none .none) (.seq (.block (.seq .none (.seq .none (.cond (.seq .none .none) .none)))) .none)))))) (.seq .none .none)))

theorem e_prog_Check (A : Amb) (p_0 : Sl) (p_1 : Int) (h : Heap) (R : Value → Heap → Prop) : F_prog_Check A p_0 p_1 h R = semFun A P f_prog_Check a_prog_Check [.agg #[.slice p_0.p p_0.len p_0.cap, .int .i64 p_1]] h R := by kernel_rfl
theorem ok_prog_Check {A : Amb} {p_0 : Sl} {p_1 : Int} {h : Heap} {R : Value → Heap → Prop} (H : F_prog_Check A p_0 p_1 h R) : HCalls A P f_prog_Check #[.agg #[.slice p_0.p p_0.len p_0.cap, .int .i64 p_1]] h R :=
  semFun_sound mixed (e_prog_Check A p_0 p_1 h R ▸ H)

/-- wherry/wherryref12.Encode -/
def F_wherryref12_Encode (A : Amb) (p_0 : Sl) (p_1 : Int) (h : Heap) (R : Value → Heap → Prop) : Prop :=
  New h (.cells #[.slice p_0.p p_0.len p_0.cap, .int .i64 p_1] t_api_Program) fun b h1 =>
  LoadL h1 (⟨b, 0, none⟩ : Addr) fun t7_0 =>
  LoadI .i64 h1 ((⟨b, 0, none⟩ : Addr).add 1) fun t7_1 =>
  HCalls A P f_wherryref12_Right #[.agg #[.slice t7_0.p t7_0.len t7_0.cap, .int .i64 t7_1]] h1 fun v h2 => ∃ t8 : Bool, v = .bool t8 ∧ (
  PIf (!t8) (
    R (.tuple #[.string (⟨#[]⟩ : ByteArray), .int .i64 130]) h2) (
    LoadI .i64 h2 ((⟨b, 0, none⟩ : Addr).add 1) fun t11 =>
    HCalls A P f_wherryref01_Int #[.int .i64 t11] h2 fun v1 h3 => ∃ t12 : ByteArray, v1 = .string t12 ∧ (
    LoadL h3 (⟨b, 0, none⟩ : Addr) fun t14 =>
    And (hget h2 (⟨b, 0, none⟩ : Addr) = some (.slice t14.p t14.len t14.cap)) <|
    HCalls A P f_wherryref01_Int #[.int .i64 ((t14.len : Nat) : Int)] h3 fun v2 h4 => ∃ t16 : ByteArray, v2 = .string t16 ∧ (
    Chk (((t12.size + t16.size : Nat) : Int) ≤ IntKind.i64.max) <|
    Loop (fun K (s : ByteArray × Int × Unit) h5 =>
      LoadL h5 (⟨b, 0, none⟩ : Addr) fun t20 =>
      PIf (decide (s.2.1 < ((t20.len : Nat) : Int))) (
        Join (fun (s1 : ByteArray × Unit) h6 =>
            K (s1.1, (IntKind.wrap .i64 (s.2.1 + (1 : Int))), ()) h6) fun K1 =>
          LoadL h5 (⟨b, 0, none⟩ : Addr) fun t26 =>
          Idx t26.p t26.len s.2.1 fun a =>
          LoadI .i64 h5 (a.add (s.2.1.toNat * 6)) fun t29_0 =>
          LoadS h5 ((a.add (s.2.1.toNat * 6)).add 1) fun t29_1 =>
          LoadS h5 ((a.add (s.2.1.toNat * 6)).add 2) fun t29_2 =>
          LoadI .i64 h5 ((a.add (s.2.1.toNat * 6)).add 3) fun t29_3 =>
          LoadI .i64 h5 ((a.add (s.2.1.toNat * 6)).add 4) fun t29_4 =>
          LoadI .i64 h5 ((a.add (s.2.1.toNat * 6)).add 5) fun t29_5 =>
          New h5 (.cells #[.int .i64 0, .string (⟨#[]⟩ : ByteArray), .string (⟨#[]⟩ : ByteArray), .int .i64 0, .int .i64 0, .int .i64 0] t_api_Step) fun b1 h7 =>
          Store h7 (⟨b1, 0, none⟩ : Addr) (.int .i64 t29_0) fun h8 =>
          Store h8 ((⟨b1, 0, none⟩ : Addr).add 1) (.string t29_1) fun h9 =>
          Store h9 ((⟨b1, 0, none⟩ : Addr).add 2) (.string t29_2) fun h10 =>
          Store h10 ((⟨b1, 0, none⟩ : Addr).add 3) (.int .i64 t29_3) fun h11 =>
          Store h11 ((⟨b1, 0, none⟩ : Addr).add 4) (.int .i64 t29_4) fun h12 =>
          Store h12 ((⟨b1, 0, none⟩ : Addr).add 5) (.int .i64 t29_5) fun h13 =>
          LoadI .i64 h13 (⟨b1, 0, none⟩ : Addr) fun t32 =>
          HCalls A P f_wherryref01_Int #[.int .i64 t32] h13 fun v3 h14 => ∃ t33 : ByteArray, v3 = .string t33 ∧ (
          Chk (((s.1.size + t33.size : Nat) : Int) ≤ IntKind.i64.max) <|
          LoadI .i64 h14 (⟨b1, 0, none⟩ : Addr) fun t36 =>
          PIf (t36 == (1 : Int)) (
            LoadS h14 ((⟨b1, 0, none⟩ : Addr).add 1) fun t40 =>
            HCalls A P f_wherryref01_Text #[.string t40] h14 fun v4 h15 => ∃ t41 : ByteArray, v4 = .string t41 ∧ (
            LoadI .i64 h15 ((⟨b1, 0, none⟩ : Addr).add 3) fun t43 =>
            And (hget h14 ((⟨b1, 0, none⟩ : Addr).add 3) = some (.int .i64 t43)) <|
            HCalls A P f_wherryref01_Int #[.int .i64 t43] h15 fun v5 h16 => ∃ t44 : ByteArray, v5 = .string t44 ∧ (
            Chk (((t41.size + t44.size : Nat) : Int) ≤ IntKind.i64.max) <|
            LoadS h16 ((⟨b1, 0, none⟩ : Addr).add 2) fun t47 =>
            And (hget h15 ((⟨b1, 0, none⟩ : Addr).add 2) = some (.string t47)) <|
            And (hget h14 ((⟨b1, 0, none⟩ : Addr).add 2) = some (.string t47)) <|
            HCalls A P f_wherryref01_Text #[.string t47] h16 fun v6 h17 => ∃ t48 : ByteArray, v6 = .string t48 ∧ (
            Chk ((((t41 ++ t44).size + t48.size : Nat) : Int) ≤ IntKind.i64.max) <|
            LoadI .i64 h17 ((⟨b1, 0, none⟩ : Addr).add 4) fun t51 =>
            And (hget h16 ((⟨b1, 0, none⟩ : Addr).add 4) = some (.int .i64 t51)) <|
            And (hget h15 ((⟨b1, 0, none⟩ : Addr).add 4) = some (.int .i64 t51)) <|
            And (hget h14 ((⟨b1, 0, none⟩ : Addr).add 4) = some (.int .i64 t51)) <|
            HCalls A P f_wherryref01_Int #[.int .i64 t51] h17 fun v7 h18 => ∃ t52 : ByteArray, v7 = .string t52 ∧ (
            Chk (((((t41 ++ t44) ++ t48).size + t52.size : Nat) : Int) ≤ IntKind.i64.max) <|
            Chk ((((s.1 ++ t33).size + (((t41 ++ t44) ++ t48) ++ t52).size : Nat) : Int) ≤ IntKind.i64.max) <|
            K1 (((s.1 ++ t33) ++ (((t41 ++ t44) ++ t48) ++ t52)), ()) h18))))) (
            LoadI .i64 h14 (⟨b1, 0, none⟩ : Addr) fun t56 =>
            PIf (t56 == (2 : Int)) (
              LoadI .i64 h14 ((⟨b1, 0, none⟩ : Addr).add 5) fun t60 =>
              HCalls A P f_wherryref01_Int #[.int .i64 t60] h14 fun v8 h19 => ∃ t61 : ByteArray, v8 = .string t61 ∧ (
              Chk ((((s.1 ++ t33).size + t61.size : Nat) : Int) ≤ IntKind.i64.max) <|
              K1 (((s.1 ++ t33) ++ t61), ()) h19)) (
              LoadS h14 ((⟨b1, 0, none⟩ : Addr).add 1) fun t65 =>
              HCalls A P f_wherryref01_Text #[.string t65] h14 fun v9 h20 => ∃ t66 : ByteArray, v9 = .string t66 ∧ (
              Chk ((((s.1 ++ t33).size + t66.size : Nat) : Int) ≤ IntKind.i64.max) <|
              K1 (((s.1 ++ t33) ++ t66), ()) h20))))) (
        R (.tuple #[.string s.1, .int .i64 0]) h5)) ((t12 ++ t16), 0, ()) h4))))

def a_wherryref12_Encode : Ann := .seq .none (.seq (.seq .none (.cond (.seq .none .none) .none)) (.seq .none (.seq (.seq .none (.block (.loop [(4, .one .str), (5, .one (.int .i64))] [1] (.seq (.seq .none (.cond .none .none)) (.seq (.blockJ [(4, .one .str)] [1, 5] (.seq .none (.seq .none (.seq .none (.cond .none (.seq .none (.cond .none .none))))))) .none))))) (.seq .none .none))))

theorem e_wherryref12_Encode (A : Amb) (p_0 : Sl) (p_1 : Int) (h : Heap) (R : Value → Heap → Prop) : F_wherryref12_Encode A p_0 p_1 h R = semFun A P f_wherryref12_Encode a_wherryref12_Encode [.agg #[.slice p_0.p p_0.len p_0.cap, .int .i64 p_1]] h R := by kernel_rfl
theorem ok_wherryref12_Encode {A : Amb} {p_0 : Sl} {p_1 : Int} {h : Heap} {R : Value → Heap → Prop} (H : F_wherryref12_Encode A p_0 p_1 h R) : HCalls A P f_wherryref12_Encode #[.agg #[.slice p_0.p p_0.len p_0.cap, .int .i64 p_1]] h R :=
  semFun_sound mixed (e_wherryref12_Encode A p_0 p_1 h R ▸ H)

/-- wherry/prog.within -/
def F_prog_within (A : Amb) (n : Int) (low : Int) (high : Int) (h : Heap) (R : Value → Heap → Prop) : Prop :=
  PIf (decide (n ≥ low)) (
    R (.bool (decide (n ≤ high))) h) (
    R (.bool false) h)

def a_prog_within : Ann := .seq .none (.seq .none .none)

theorem e_prog_within (A : Amb) (n : Int) (low : Int) (high : Int) (h : Heap) (R : Value → Heap → Prop) : F_prog_within A n low high h R = semFun A P f_prog_within a_prog_within [.int .i64 n, .int .i64 low, .int .i64 high] h R := by kernel_rfl
theorem ok_prog_within {A : Amb} {n : Int} {low : Int} {high : Int} {h : Heap} {R : Value → Heap → Prop} (H : F_prog_within A n low high h R) : HCalls A P f_prog_within #[.int .i64 n, .int .i64 low, .int .i64 high] h R :=
  semFun_sound mixed (e_prog_within A n low high h R ▸ H)

/-- wherry/prog.right -/
def F_prog_right (A : Amb) (s_0 : Int) (s_1 : ByteArray) (s_2 : ByteArray) (s_3 : Int) (s_4 : Int) (s_5 : Int) (h : Heap) (R : Value → Heap → Prop) : Prop :=
  New h (.cells #[.int .i64 s_0, .string s_1, .string s_2, .int .i64 s_3, .int .i64 s_4, .int .i64 s_5] t_api_Step) fun b h1 =>
  LoadI .i64 h1 (⟨b, 0, none⟩ : Addr) fun t5 =>
  PIf (t5 == (1 : Int)) (
    Join (fun (r : Bool × Unit) h2 =>
        LoadS h2 ((⟨b, 0, none⟩ : Addr).add 1) fun t27 =>
        HCalls A P f_prog_Named #[.string t27] h2 fun v h3 => ∃ t28 : Bool, v = .bool t28 ∧ (
        PIf t28 (
          LoadI .i64 h3 ((⟨b, 0, none⟩ : Addr).add 3) fun t31 =>
          HCalls A P f_prog_within #[.int .i64 t31, .int .i64 1, .int .i64 5] h3 fun v1 h4 => ∃ t32 : Bool, v1 = .bool t32 ∧ (
          PIf t32 (
            PIf r.1 (
              LoadI .i64 h4 ((⟨b, 0, none⟩ : Addr).add 5) fun t39 =>
              R (.bool (t39 == (0 : Int))) h4) (
              R (.bool false) h4)) (
            R (.bool false) h4))) (
          R (.bool false) h3))) fun K =>
      LoadS h1 ((⟨b, 0, none⟩ : Addr).add 2) fun t9 =>
      PIf (sEq t9 (⟨#[]⟩ : ByteArray)) (
        LoadI .i64 h1 ((⟨b, 0, none⟩ : Addr).add 4) fun t13 =>
        PIf (t13 == (0 : Int)) (
          K (true, ()) h1) (
          LoadS h1 ((⟨b, 0, none⟩ : Addr).add 2) fun t18 =>
          HCalls A P f_prog_Named #[.string t18] h1 fun v2 h5 => ∃ t19 : Bool, v2 = .bool t19 ∧ (
          PIf t19 (
            LoadI .i64 h5 ((⟨b, 0, none⟩ : Addr).add 4) fun t22 =>
            HCalls A P f_prog_within #[.int .i64 t22, .int .i64 1, .int .i64 5] h5 fun v3 h6 => ∃ t23 : Bool, v3 = .bool t23 ∧ (
            K (t23, ()) h6)) (
            K (false, ()) h5)))) (
        LoadS h1 ((⟨b, 0, none⟩ : Addr).add 2) fun t18_1 =>
        HCalls A P f_prog_Named #[.string t18_1] h1 fun v4 h7 => ∃ t19_1 : Bool, v4 = .bool t19_1 ∧ (
        PIf t19_1 (
          LoadI .i64 h7 ((⟨b, 0, none⟩ : Addr).add 4) fun t22_1 =>
          HCalls A P f_prog_within #[.int .i64 t22_1, .int .i64 1, .int .i64 5] h7 fun v5 h8 => ∃ t23_1 : Bool, v5 = .bool t23_1 ∧ (
          K (t23_1, ()) h8)) (
          K (false, ()) h7)))) (
    PIf (t5 == (2 : Int)) (
      LoadI .i64 h1 (⟨b, 0, none⟩ : Addr) fun t44_0 =>
      LoadS h1 ((⟨b, 0, none⟩ : Addr).add 1) fun t44_1 =>
      LoadS h1 ((⟨b, 0, none⟩ : Addr).add 2) fun t44_2 =>
      LoadI .i64 h1 ((⟨b, 0, none⟩ : Addr).add 3) fun t44_3 =>
      LoadI .i64 h1 ((⟨b, 0, none⟩ : Addr).add 4) fun t44_4 =>
      LoadI .i64 h1 ((⟨b, 0, none⟩ : Addr).add 5) fun t44_5 =>
      LoadI .i64 h1 ((⟨b, 0, none⟩ : Addr).add 5) fun t46 =>
      RunK A P (do eqGuard .eql t_api_Step (.tmp 44) (.tmp 47) (.agg #[.int .i64 t44_0, .string t44_1, .string t44_2, .int .i64 t44_3, .int .i64 t44_4, .int .i64 t44_5]) (.agg #[.int .i64 2, .string (⟨#[]⟩ : ByteArray), .string (⟨#[]⟩ : ByteArray), .int .i64 0, .int .i64 0, .int .i64 t46]); binOp .eql t_api_Step (.agg #[.int .i64 t44_0, .string t44_1, .string t44_2, .int .i64 t44_3, .int .i64 t44_4, .int .i64 t44_5]) (.agg #[.int .i64 2, .string (⟨#[]⟩ : ByteArray), .string (⟨#[]⟩ : ByteArray), .int .i64 0, .int .i64 0, .int .i64 t46])) h1 fun v6 h9 => ∃ t48 : Bool, v6 = .bool t48 ∧ (
      PIf t48 (
        LoadI .i64 h9 ((⟨b, 0, none⟩ : Addr).add 5) fun t51 =>
        HCalls A P f_prog_within #[.int .i64 t51, .int .i64 1, .int .i64 1000] h9 fun v7 h10 => ∃ t52 : Bool, v7 = .bool t52 ∧ (
        R (.bool t52) h10)) (
        R (.bool false) h9))) (
      PIf (t5 == (3 : Int)) (
        LoadI .i64 h1 (⟨b, 0, none⟩ : Addr) fun t56_0 =>
        LoadS h1 ((⟨b, 0, none⟩ : Addr).add 1) fun t56_1 =>
        LoadS h1 ((⟨b, 0, none⟩ : Addr).add 2) fun t56_2 =>
        LoadI .i64 h1 ((⟨b, 0, none⟩ : Addr).add 3) fun t56_3 =>
        LoadI .i64 h1 ((⟨b, 0, none⟩ : Addr).add 4) fun t56_4 =>
        LoadI .i64 h1 ((⟨b, 0, none⟩ : Addr).add 5) fun t56_5 =>
        LoadS h1 ((⟨b, 0, none⟩ : Addr).add 1) fun t58 =>
        RunK A P (do eqGuard .eql t_api_Step (.tmp 56) (.tmp 59) (.agg #[.int .i64 t56_0, .string t56_1, .string t56_2, .int .i64 t56_3, .int .i64 t56_4, .int .i64 t56_5]) (.agg #[.int .i64 3, .string t58, .string (⟨#[]⟩ : ByteArray), .int .i64 0, .int .i64 0, .int .i64 0]); binOp .eql t_api_Step (.agg #[.int .i64 t56_0, .string t56_1, .string t56_2, .int .i64 t56_3, .int .i64 t56_4, .int .i64 t56_5]) (.agg #[.int .i64 3, .string t58, .string (⟨#[]⟩ : ByteArray), .int .i64 0, .int .i64 0, .int .i64 0])) h1 fun v8 h11 => ∃ t60 : Bool, v8 = .bool t60 ∧ (
        PIf t60 (
          LoadS h11 ((⟨b, 0, none⟩ : Addr).add 1) fun t63 =>
          HCalls A P f_prog_Named #[.string t63] h11 fun v9 h12 => ∃ t64 : Bool, v9 = .bool t64 ∧ (
          R (.bool t64) h12)) (
          R (.bool false) h11))) (
        R (.bool false) h1)))

def a_prog_right : Ann := .seq .none (.seq (.seq .none (.block (.seq .none (.cond (.seq (.reg [(3, .one .bool)] [1]) (.seq .none .none)) (.seq .none (.cond (.seq .none .none) (.seq .none (.cond (.seq .none .none) .none)))))))) (.seq .none .none))

theorem e_prog_right (A : Amb) (s_0 : Int) (s_1 : ByteArray) (s_2 : ByteArray) (s_3 : Int) (s_4 : Int) (s_5 : Int) (h : Heap) (R : Value → Heap → Prop) : F_prog_right A s_0 s_1 s_2 s_3 s_4 s_5 h R = semFun A P f_prog_right a_prog_right [.agg #[.int .i64 s_0, .string s_1, .string s_2, .int .i64 s_3, .int .i64 s_4, .int .i64 s_5]] h R := by kernel_rfl
theorem ok_prog_right {A : Amb} {s_0 : Int} {s_1 : ByteArray} {s_2 : ByteArray} {s_3 : Int} {s_4 : Int} {s_5 : Int} {h : Heap} {R : Value → Heap → Prop} (H : F_prog_right A s_0 s_1 s_2 s_3 s_4 s_5 h R) : HCalls A P f_prog_right #[.agg #[.int .i64 s_0, .string s_1, .string s_2, .int .i64 s_3, .int .i64 s_4, .int .i64 s_5]] h R :=
  semFun_sound mixed (e_prog_right A s_0 s_1 s_2 s_3 s_4 s_5 h R ▸ H)

/-- wherry/wherryref12.Right -/
def F_wherryref12_Right (A : Amb) (p_0 : Sl) (p_1 : Int) (h : Heap) (R : Value → Heap → Prop) : Prop :=
  New h (.cells #[.slice p_0.p p_0.len p_0.cap, .int .i64 p_1] t_api_Program) fun b h1 =>
  Join (fun (r : Bool × Unit) h2 =>
      PIf r.1 (
        R (.bool false) h2) (
        Loop (fun K1 (s : Int × Unit) h3 =>
          LoadL h3 (⟨b, 0, none⟩ : Addr) fun t16 =>
          PIf (decide (s.1 < ((t16.len : Nat) : Int))) (
            LoadL h3 (⟨b, 0, none⟩ : Addr) fun t22 =>
            Idx t22.p t22.len s.1 fun a =>
            LoadI .i64 h3 (a.add (s.1.toNat * 6)) fun t25_0 =>
            LoadS h3 ((a.add (s.1.toNat * 6)).add 1) fun t25_1 =>
            LoadS h3 ((a.add (s.1.toNat * 6)).add 2) fun t25_2 =>
            LoadI .i64 h3 ((a.add (s.1.toNat * 6)).add 3) fun t25_3 =>
            LoadI .i64 h3 ((a.add (s.1.toNat * 6)).add 4) fun t25_4 =>
            LoadI .i64 h3 ((a.add (s.1.toNat * 6)).add 5) fun t25_5 =>
            HCalls A P f_wherryref12_Step #[.agg #[.int .i64 t25_0, .string t25_1, .string t25_2, .int .i64 t25_3, .int .i64 t25_4, .int .i64 t25_5]] h3 fun v h4 => ∃ t26 : Bool, v = .bool t26 ∧ (
            PIf (!t26) (
              R (.bool false) h4) (
              K1 ((IntKind.wrap .i64 (s.1 + (1 : Int))), ()) h4))) (
            R (.bool true) h3)) (0, ()) h2)) fun K =>
    LoadL h1 (⟨b, 0, none⟩ : Addr) fun t5 =>
    PIf (decide (((t5.len : Nat) : Int) > (16 : Int))) (
      K (true, ()) h1) (
      LoadI .i64 h1 ((⟨b, 0, none⟩ : Addr).add 1) fun t10 =>
      HCalls A P f_wherryref12_in #[.int .i64 t10, .int .i64 0, .int .i64 16000] h1 fun v1 h5 => ∃ t11 : Bool, v1 = .bool t11 ∧ (
      K ((!t11), ()) h5))

def a_wherryref12_Right : Ann := .seq .none (.seq (.seq (.reg [(13, .one .bool)] [1]) (.cond (.seq .none .none) .none)) (.seq (.seq .none (.block (.loop [(3, .one (.int .i64))] [1] (.seq (.seq .none (.cond .none .none)) (.seq (.block (.seq .none (.cond (.seq .none .none) .none))) .none))))) (.seq .none .none)))

theorem e_wherryref12_Right (A : Amb) (p_0 : Sl) (p_1 : Int) (h : Heap) (R : Value → Heap → Prop) : F_wherryref12_Right A p_0 p_1 h R = semFun A P f_wherryref12_Right a_wherryref12_Right [.agg #[.slice p_0.p p_0.len p_0.cap, .int .i64 p_1]] h R := by kernel_rfl
theorem ok_wherryref12_Right {A : Amb} {p_0 : Sl} {p_1 : Int} {h : Heap} {R : Value → Heap → Prop} (H : F_wherryref12_Right A p_0 p_1 h R) : HCalls A P f_wherryref12_Right #[.agg #[.slice p_0.p p_0.len p_0.cap, .int .i64 p_1]] h R :=
  semFun_sound mixed (e_wherryref12_Right A p_0 p_1 h R ▸ H)

/-- wherry/wherryref12.in -/
def F_wherryref12_in (A : Amb) (n : Int) (low : Int) (high : Int) (h : Heap) (R : Value → Heap → Prop) : Prop :=
  PIf (decide (n ≥ low)) (
    R (.bool (decide (n ≤ high))) h) (
    R (.bool false) h)

def a_wherryref12_in : Ann := .seq .none (.seq .none .none)

theorem e_wherryref12_in (A : Amb) (n : Int) (low : Int) (high : Int) (h : Heap) (R : Value → Heap → Prop) : F_wherryref12_in A n low high h R = semFun A P f_wherryref12_in a_wherryref12_in [.int .i64 n, .int .i64 low, .int .i64 high] h R := by kernel_rfl
theorem ok_wherryref12_in {A : Amb} {n : Int} {low : Int} {high : Int} {h : Heap} {R : Value → Heap → Prop} (H : F_wherryref12_in A n low high h R) : HCalls A P f_wherryref12_in #[.int .i64 n, .int .i64 low, .int .i64 high] h R :=
  semFun_sound mixed (e_wherryref12_in A n low high h R ▸ H)

/-- wherry/wherryref12.Step -/
def F_wherryref12_Step (A : Amb) (s_0 : Int) (s_1 : ByteArray) (s_2 : ByteArray) (s_3 : Int) (s_4 : Int) (s_5 : Int) (h : Heap) (R : Value → Heap → Prop) : Prop :=
  New h (.cells #[.int .i64 s_0, .string s_1, .string s_2, .int .i64 s_3, .int .i64 s_4, .int .i64 s_5] t_api_Step) fun b h1 =>
  LoadI .i64 h1 (⟨b, 0, none⟩ : Addr) fun t4 =>
  PIf (t4 == (1 : Int)) (
    Join (fun (r : Bool × Unit) h2 =>
        PIf r.1 (
          R (.bool false) h2) (
          LoadS h2 ((⟨b, 0, none⟩ : Addr).add 1) fun t33 =>
          HCalls A P f_wherryref12_Named #[.string t33] h2 fun v h3 => ∃ t34 : Bool, v = .bool t34 ∧ (
          PIf t34 (
            LoadI .i64 h3 ((⟨b, 0, none⟩ : Addr).add 3) fun t37 =>
            HCalls A P f_wherryref12_in #[.int .i64 t37, .int .i64 1, .int .i64 5] h3 fun v1 h4 => ∃ t38 : Bool, v1 = .bool t38 ∧ (
            PIf t38 (
              LoadI .i64 h4 ((⟨b, 0, none⟩ : Addr).add 5) fun t42 =>
              R (.bool (t42 == (0 : Int))) h4) (
              R (.bool false) h4))) (
            R (.bool false) h3)))) fun K =>
      LoadS h1 ((⟨b, 0, none⟩ : Addr).add 2) fun t8 =>
      PIf (sEq t8 (⟨#[]⟩ : ByteArray)) (
        LoadI .i64 h1 ((⟨b, 0, none⟩ : Addr).add 4) fun t12 =>
        PIf (t12 != (0 : Int)) (
          K (true, ()) h1) (
          LoadS h1 ((⟨b, 0, none⟩ : Addr).add 2) fun t17 =>
          PIf (!sEq t17 (⟨#[]⟩ : ByteArray)) (
            LoadS h1 ((⟨b, 0, none⟩ : Addr).add 2) fun t21 =>
            HCalls A P f_wherryref12_Named #[.string t21] h1 fun v2 h5 => ∃ t22 : Bool, v2 = .bool t22 ∧ (
            PIf (!t22) (
              K (true, ()) h5) (
              LoadI .i64 h5 ((⟨b, 0, none⟩ : Addr).add 4) fun t26 =>
              HCalls A P f_wherryref12_in #[.int .i64 t26, .int .i64 1, .int .i64 5] h5 fun v3 h6 => ∃ t27 : Bool, v3 = .bool t27 ∧ (
              K ((!t27), ()) h6)))) (
            K (false, ()) h1))) (
        LoadS h1 ((⟨b, 0, none⟩ : Addr).add 2) fun t17_1 =>
        PIf (!sEq t17_1 (⟨#[]⟩ : ByteArray)) (
          LoadS h1 ((⟨b, 0, none⟩ : Addr).add 2) fun t21_1 =>
          HCalls A P f_wherryref12_Named #[.string t21_1] h1 fun v4 h7 => ∃ t22_1 : Bool, v4 = .bool t22_1 ∧ (
          PIf (!t22_1) (
            K (true, ()) h7) (
            LoadI .i64 h7 ((⟨b, 0, none⟩ : Addr).add 4) fun t26_1 =>
            HCalls A P f_wherryref12_in #[.int .i64 t26_1, .int .i64 1, .int .i64 5] h7 fun v5 h8 => ∃ t27_1 : Bool, v5 = .bool t27_1 ∧ (
            K ((!t27_1), ()) h8)))) (
          K (false, ()) h1))) (
    PIf (t4 == (2 : Int)) (
      LoadS h1 ((⟨b, 0, none⟩ : Addr).add 1) fun t48 =>
      PIf (sEq t48 (⟨#[]⟩ : ByteArray)) (
        LoadS h1 ((⟨b, 0, none⟩ : Addr).add 2) fun t52 =>
        PIf (sEq t52 (⟨#[]⟩ : ByteArray)) (
          LoadI .i64 h1 ((⟨b, 0, none⟩ : Addr).add 3) fun t57 =>
          PIf (t57 == (0 : Int)) (
            LoadI .i64 h1 ((⟨b, 0, none⟩ : Addr).add 4) fun t62 =>
            PIf (t62 == (0 : Int)) (
              LoadI .i64 h1 ((⟨b, 0, none⟩ : Addr).add 5) fun t67 =>
              HCalls A P f_wherryref12_in #[.int .i64 t67, .int .i64 1, .int .i64 1000] h1 fun v6 h9 => ∃ t68 : Bool, v6 = .bool t68 ∧ (
              R (.bool t68) h9)) (
              R (.bool false) h1)) (
            R (.bool false) h1)) (
          R (.bool false) h1)) (
        R (.bool false) h1)) (
      PIf (t4 == (3 : Int)) (
        LoadS h1 ((⟨b, 0, none⟩ : Addr).add 1) fun t73 =>
        HCalls A P f_wherryref12_Named #[.string t73] h1 fun v7 h10 => ∃ t74 : Bool, v7 = .bool t74 ∧ (
        PIf t74 (
          LoadS h10 ((⟨b, 0, none⟩ : Addr).add 2) fun t77 =>
          PIf (sEq t77 (⟨#[]⟩ : ByteArray)) (
            LoadI .i64 h10 ((⟨b, 0, none⟩ : Addr).add 3) fun t82 =>
            PIf (t82 == (0 : Int)) (
              LoadI .i64 h10 ((⟨b, 0, none⟩ : Addr).add 4) fun t87 =>
              PIf (t87 == (0 : Int)) (
                LoadI .i64 h10 ((⟨b, 0, none⟩ : Addr).add 5) fun t92 =>
                R (.bool (t92 == (0 : Int))) h10) (
                R (.bool false) h10)) (
              R (.bool false) h10)) (
            R (.bool false) h10)) (
          R (.bool false) h10))) (
        R (.bool false) h1)))

def a_wherryref12_Step : Ann := .seq .none (.seq (.seq .none (.block (.seq .none (.cond (.seq (.seq (.reg [(31, .one .bool)] [1]) (.cond (.seq .none .none) .none)) (.seq .none .none)) (.seq .none (.cond (.seq .none .none) (.seq .none (.cond (.seq .none .none) .none)))))))) (.seq .none .none))

theorem e_wherryref12_Step (A : Amb) (s_0 : Int) (s_1 : ByteArray) (s_2 : ByteArray) (s_3 : Int) (s_4 : Int) (s_5 : Int) (h : Heap) (R : Value → Heap → Prop) : F_wherryref12_Step A s_0 s_1 s_2 s_3 s_4 s_5 h R = semFun A P f_wherryref12_Step a_wherryref12_Step [.agg #[.int .i64 s_0, .string s_1, .string s_2, .int .i64 s_3, .int .i64 s_4, .int .i64 s_5]] h R := by kernel_rfl
theorem ok_wherryref12_Step {A : Amb} {s_0 : Int} {s_1 : ByteArray} {s_2 : ByteArray} {s_3 : Int} {s_4 : Int} {s_5 : Int} {h : Heap} {R : Value → Heap → Prop} (H : F_wherryref12_Step A s_0 s_1 s_2 s_3 s_4 s_5 h R) : HCalls A P f_wherryref12_Step #[.agg #[.int .i64 s_0, .string s_1, .string s_2, .int .i64 s_3, .int .i64 s_4, .int .i64 s_5]] h R :=
  semFun_sound mixed (e_wherryref12_Step A s_0 s_1 s_2 s_3 s_4 s_5 h R ▸ H)

end Go.Lf.G

