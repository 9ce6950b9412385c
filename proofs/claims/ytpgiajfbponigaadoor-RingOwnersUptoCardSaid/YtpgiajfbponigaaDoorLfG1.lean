/-
  The formulas of functions, printed by lift.py; each with the theorem that it is what the lift reckons of the program.
-/
import Derived.Test.YtpgiajfbponigaaDoorLfN1
set_option linter.unusedVariables false
set_option maxRecDepth 100000
namespace Go.Lf.G

/-- wherry/wherrylaw11.RingFew -/
def F_wherrylaw11_RingFew (A : Amb) (hosts : Sl) (more : ByteArray) (key : ByteArray) (h : Heap) (R : Value → Heap → Prop) : Prop :=
  HCalls A P f_wherrylaw11_awake #[] h fun v h1 => ∃ t10 : Bool, v = .bool t10 ∧ (
  PIf (!t10) (
    R (.bool false) h1) (
    HCalls A P f_ring_Owner #[.slice hosts.p hosts.len hosts.cap, .string key] h1 fun v1 h2 => ∃ t14 : ByteArray, v1 = .string t14 ∧ (
    RunK A P (Builtin.append_ #[t_sl_string, t_sl_string] t_sl_string #[.slice none 0 0, .slice hosts.p hosts.len hosts.cap]) h2 fun v2 h3 => ∃ t16 : Sl, v2 = .slice t16.p t16.len t16.cap ∧ (
    New h3 (.cells #[.string more] t_string) fun b h4 =>
    RunK A P (Builtin.append_ #[t_sl_string, t_sl_string] t_sl_string #[.slice t16.p t16.len t16.cap, .slice (some (⟨b, 0, none⟩ : Addr)) 1 1]) h4 fun v3 h5 => ∃ t19 : Sl, v3 = .slice t19.p t19.len t19.cap ∧ (
    HCalls A P f_ring_Owner #[.slice t19.p t19.len t19.cap, .string key] h5 fun v4 h6 => ∃ t21 : ByteArray, v4 = .string t21 ∧ (
    New h6 (.cells #[.string more] t_string) fun b1 h7 =>
    RunK A P (Builtin.append_ #[t_sl_string, t_sl_string] t_sl_string #[.slice (some (⟨b1, 0, none⟩ : Addr)) 1 1, .slice hosts.p hosts.len hosts.cap]) h7 fun v5 h8 => ∃ t25 : Sl, v5 = .slice t25.p t25.len t25.cap ∧ (
    HCalls A P f_ring_Owner #[.slice t25.p t25.len t25.cap, .string key] h8 fun v6 h9 => ∃ t27 : ByteArray, v6 = .string t27 ∧ (
    PIf (sEq t21 t27) (
      PIf (sEq t21 t14) (
        R (.bool true) h9) (
        R (.bool (sEq t21 more)) h9)) (
      R (.bool false) h9)))))))))

def a_wherrylaw11_RingFew : Ann := .seq .none (.seq (.seq .none (.cond (.seq .none .none) .none)) (.seq .none (.seq .none (.seq .none (.seq .none .none)))))

theorem e_wherrylaw11_RingFew (A : Amb) (hosts : Sl) (more : ByteArray) (key : ByteArray) (h : Heap) (R : Value → Heap → Prop) : F_wherrylaw11_RingFew A hosts more key h R = semFun A P f_wherrylaw11_RingFew a_wherrylaw11_RingFew [.slice hosts.p hosts.len hosts.cap, .string more, .string key] h R := by kernel_rfl
theorem ok_wherrylaw11_RingFew {A : Amb} {hosts : Sl} {more : ByteArray} {key : ByteArray} {h : Heap} {R : Value → Heap → Prop} (H : F_wherrylaw11_RingFew A hosts more key h R) : HCalls A P f_wherrylaw11_RingFew #[.slice hosts.p hosts.len hosts.cap, .string more, .string key] h R :=
  semFun_sound mixed (e_wherrylaw11_RingFew A hosts more key h R ▸ H)

/-- wherry/wherrylaw11.RingRound -/
def F_wherrylaw11_RingRound (A : Amb) (a : ByteArray) (b : ByteArray) (c : ByteArray) (h : Heap) (R : Value → Heap → Prop) : Prop :=
  HCalls A P f_wherrylaw11_awake #[] h fun v h1 => ∃ t13 : Bool, v = .bool t13 ∧ (
  PIf (!t13) (
    R (.bool false) h1) (
    HCalls A P f_ring_Place #[.string a] h1 fun v1 h2 => ∃ t16 : Nat × Nat, v1 = .complex .f64 t16.1 t16.2 ∧ (
    HCalls A P f_ring_Place #[.string b] h2 fun v2 h3 => ∃ t18 : Nat × Nat, v2 = .complex .f64 t18.1 t18.2 ∧ (
    HCalls A P f_ring_Place #[.string c] h3 fun v3 h4 => ∃ t20 : Nat × Nat, v3 = .complex .f64 t20.1 t20.2 ∧ (
    HCalls A P f_ring_Turn #[.complex .f64 t16.1 t16.2, .complex .f64 t18.1 t18.2] h4 fun v4 h5 => ∃ t23 : Int, v4 = .int .i64 t23 ∧ (
    HCalls A P f_ring_Turn #[.complex .f64 t18.1 t18.2, .complex .f64 t20.1 t20.2] h5 fun v5 h6 => ∃ t26 : Int, v5 = .int .i64 t26 ∧ (
    HCalls A P f_ring_Turn #[.complex .f64 t16.1 t16.2, .complex .f64 t20.1 t20.2] h6 fun v6 h7 => ∃ t29 : Int, v6 = .int .i64 t29 ∧ (
    HCalls A P f_ring_Right #[.complex .f64 t16.1 t16.2] h7 fun v7 h8 => ∃ t31 : Bool, v7 = .bool t31 ∧ (
    PIf t31 (
      PIf (decide (t23 ≥ (0 : Int))) (
        PIf (decide (t23 < (4096 : Int))) (
          PIf (((IntKind.wrap .i64 (t23 + t26)).tmod (4096 : Int)) == t29) (
            HCalls A P f_ring_Turn #[.complex .f64 t18.1 t18.2, .complex .f64 t16.1 t16.2] h8 fun v8 h9 => ∃ t52 : Int, v8 = .int .i64 t52 ∧ (
            PIf (((IntKind.wrap .i64 (t23 + t52)).tmod (4096 : Int)) == (0 : Int)) (
              RunK A P (do eqGuard .eql t_complex128 (.tmp 60) (.tmp 61) (.complex .f64 t16.1 t16.2) (.complex .f64 t18.1 t18.2); binOp .eql t_complex128 (.complex .f64 t16.1 t16.2) (.complex .f64 t18.1 t18.2)) h9 fun v9 h10 => ∃ t62 : Bool, v9 = .bool t62 ∧ (
              R (.bool ((t23 == (0 : Int)) == t62)) h10)) (
              R (.bool false) h9))) (
            R (.bool false) h8)) (
          R (.bool false) h8)) (
        R (.bool false) h8)) (
      R (.bool false) h8))))))))))

def a_wherrylaw11_RingRound : Ann := .seq .none (.seq (.seq .none (.cond (.seq .none .none) .none)) (.seq .none (.seq .none (.seq .none .none))))

theorem e_wherrylaw11_RingRound (A : Amb) (a : ByteArray) (b : ByteArray) (c : ByteArray) (h : Heap) (R : Value → Heap → Prop) : F_wherrylaw11_RingRound A a b c h R = semFun A P f_wherrylaw11_RingRound a_wherrylaw11_RingRound [.string a, .string b, .string c] h R := by kernel_rfl
theorem ok_wherrylaw11_RingRound {A : Amb} {a : ByteArray} {b : ByteArray} {c : ByteArray} {h : Heap} {R : Value → Heap → Prop} (H : F_wherrylaw11_RingRound A a b c h R) : HCalls A P f_wherrylaw11_RingRound #[.string a, .string b, .string c] h R :=
  semFun_sound mixed (e_wherrylaw11_RingRound A a b c h R ▸ H)

/-- wherry/wherrylaw11.RingOrder -/
def F_wherrylaw11_RingOrder (A : Amb) (hosts : Sl) (key : ByteArray) (turn : Int) (h : Heap) (R : Value → Heap → Prop) : Prop :=
  HCalls A P f_wherrylaw11_awake #[] h fun v h1 => ∃ t13 : Bool, v = .bool t13 ∧ (
  PIf (!t13) (
    R (.bool false) h1) (
    PIf (((hosts.len : Nat) : Int) == (0 : Int)) (
      HCalls A P f_ring_Owner #[.slice hosts.p hosts.len hosts.cap, .string key] h1 fun v1 h2 => ∃ t20 : ByteArray, v1 = .string t20 ∧ (
      R (.bool (sEq t20 (⟨#[]⟩ : ByteArray))) h2)) (
      Chk (((hosts.len : Nat) : Int) ≠ 0) <|
      Chk (((hosts.len : Nat) : Int) ≠ 0) <|
      Chk ((0 : Int) ≤ ((IntKind.wrap .i64 ((turn.tmod ((hosts.len : Nat) : Int)) + ((hosts.len : Nat) : Int))).tmod ((hosts.len : Nat) : Int)) ∧ ((IntKind.wrap .i64 ((turn.tmod ((hosts.len : Nat) : Int)) + ((hosts.len : Nat) : Int))).tmod ((hosts.len : Nat) : Int)) ≤ ((hosts.len : Nat) : Int)) <|
      RunK A P (Builtin.append_ #[t_sl_string, t_sl_string] t_sl_string #[.slice none 0 0, .slice (slOff hosts.p hosts.cap (((IntKind.wrap .i64 ((turn.tmod ((hosts.len : Nat) : Int)) + ((hosts.len : Nat) : Int))).tmod ((hosts.len : Nat) : Int)).toNat) 1) (hosts.len - (((IntKind.wrap .i64 ((turn.tmod ((hosts.len : Nat) : Int)) + ((hosts.len : Nat) : Int))).tmod ((hosts.len : Nat) : Int)).toNat)) (hosts.cap - (((IntKind.wrap .i64 ((turn.tmod ((hosts.len : Nat) : Int)) + ((hosts.len : Nat) : Int))).tmod ((hosts.len : Nat) : Int)).toNat))]) h1 fun v2 h3 => ∃ t35 : Sl, v2 = .slice t35.p t35.len t35.cap ∧ (
      Chk ((0 : Int) ≤ ((IntKind.wrap .i64 ((turn.tmod ((hosts.len : Nat) : Int)) + ((hosts.len : Nat) : Int))).tmod ((hosts.len : Nat) : Int)) ∧ ((IntKind.wrap .i64 ((turn.tmod ((hosts.len : Nat) : Int)) + ((hosts.len : Nat) : Int))).tmod ((hosts.len : Nat) : Int)) ≤ ((hosts.cap : Nat) : Int)) <|
      RunK A P (Builtin.append_ #[t_sl_string, t_sl_string] t_sl_string #[.slice t35.p t35.len t35.cap, .slice (slOff hosts.p hosts.cap 0 1) ((((IntKind.wrap .i64 ((turn.tmod ((hosts.len : Nat) : Int)) + ((hosts.len : Nat) : Int))).tmod ((hosts.len : Nat) : Int)).toNat) - 0) (hosts.cap - 0)]) h3 fun v3 h4 => ∃ t39 : Sl, v3 = .slice t39.p t39.len t39.cap ∧ (
      HCalls A P f_ring_Owner #[.slice hosts.p hosts.len hosts.cap, .string key] h4 fun v4 h5 => ∃ t42 : ByteArray, v4 = .string t42 ∧ (
      Loop (fun K (s : Bool × Int × Unit) h6 =>
        PIf (decide (s.2.1 < ((hosts.len : Nat) : Int))) (
          Idx hosts.p hosts.len s.2.1 fun a =>
          LoadS h6 (a.add (s.2.1.toNat * 1)) fun t48 =>
          Join (fun (r : Bool × Unit) h7 =>
              K (r.1, (IntKind.wrap .i64 (s.2.1 + (1 : Int))), ()) h7) fun K1 =>
            PIf s.1 (
              K1 (true, ()) h6) (
              K1 ((sEq t48 t42), ()) h6)) (
          PIf s.1 (
            HCalls A P f_ring_Owner #[.slice t39.p t39.len t39.cap, .string key] h6 fun v5 h8 => ∃ t60 : ByteArray, v5 = .string t60 ∧ (
            PIf (sEq t60 t42) (
              RunK A P (Builtin.append_ #[t_sl_string, t_sl_string] t_sl_string #[.slice t39.p t39.len t39.cap, .slice hosts.p hosts.len hosts.cap]) h8 fun v6 h9 => ∃ t67 : Sl, v6 = .slice t67.p t67.len t67.cap ∧ (
              HCalls A P f_ring_Owner #[.slice t67.p t67.len t67.cap, .string key] h9 fun v7 h10 => ∃ t69 : ByteArray, v7 = .string t69 ∧ (
              R (.bool (sEq t69 t42)) h10))) (
              R (.bool false) h8))) (
            R (.bool false) h6))) (false, 0, ()) h5))))))

def a_wherrylaw11_RingOrder : Ann := .seq .none (.seq (.seq .none (.cond (.seq .none .none) .none)) (.seq (.seq .none (.cond (.seq .none .none) .none)) (.seq .none (.seq .none (.seq .none (.seq .none (.seq (.seq .none (.block (.loop [(10, .one .bool), (45, .one (.int .i64))] [0, 1, 8, 9, 43, 44] (.seq .none (.seq (.cond .none .none) (.seq (.block (.seq .none (.reg [(10, .one .bool)] [0, 1, 8, 9, 43, 44, 45]))) .none)))))) (.seq .none .none))))))))

theorem e_wherrylaw11_RingOrder (A : Amb) (hosts : Sl) (key : ByteArray) (turn : Int) (h : Heap) (R : Value → Heap → Prop) : F_wherrylaw11_RingOrder A hosts key turn h R = semFun A P f_wherrylaw11_RingOrder a_wherrylaw11_RingOrder [.slice hosts.p hosts.len hosts.cap, .string key, .int .i64 turn] h R := by kernel_rfl
theorem ok_wherrylaw11_RingOrder {A : Amb} {hosts : Sl} {key : ByteArray} {turn : Int} {h : Heap} {R : Value → Heap → Prop} (H : F_wherrylaw11_RingOrder A hosts key turn h R) : HCalls A P f_wherrylaw11_RingOrder #[.slice hosts.p hosts.len hosts.cap, .string key, .int .i64 turn] h R :=
  semFun_sound mixed (e_wherrylaw11_RingOrder A hosts key turn h R ▸ H)

/-- wherry/wherrylaw11.RingOwners -/
def F_wherrylaw11_RingOwners (A : Amb) (hosts : Sl) (key : ByteArray) (shards : Int) (h : Heap) (R : Value → Heap → Prop) : Prop :=
  HCalls A P f_wherrylaw11_awake #[] h fun v h1 => ∃ t11 : Bool, v = .bool t11 ∧ (
  PIf (!t11) (
    R (.bool false) h1) (
    HCalls A P f_ring_Shard #[.string key, .int .i64 shards] h1 fun v1 h2 => ∃ t16a : Int, ∃ t16b : Int, v1 = .tuple #[.int .i64 t16a, .int .i64 t16b] ∧ (
    HCalls A P f_wherryref11_Shard #[.string key, .int .i64 shards] h2 fun v2 h3 => ∃ t22a : Int, ∃ t22b : Int, v2 = .tuple #[.int .i64 t22a, .int .i64 t22b] ∧ (
    HCalls A P f_ring_Owner #[.slice hosts.p hosts.len hosts.cap, .string key] h3 fun v3 h4 => ∃ t27 : ByteArray, v3 = .string t27 ∧ (
    HCalls A P f_wherryref11_Owner #[.slice hosts.p hosts.len hosts.cap, .string key] h4 fun v4 h5 => ∃ t30 : ByteArray, v4 = .string t30 ∧ (
    PIf (sEq t27 t30) (
      PIf (t16a == t22a) (
        PIf (t16b == t22b) (
          HCalls A P f_ring_Name #[.int .i64 shards] h5 fun v5 h6 => ∃ t44 : ByteArray, v5 = .string t44 ∧ (
          HCalls A P f_wherryref11_Name #[.int .i64 shards] h6 fun v6 h7 => ∃ t46 : ByteArray, v6 = .string t46 ∧ (
          PIf (sEq t44 t46) (
            PIf (t16b == (0 : Int)) (
              R (.bool true) h7) (
              R (.bool (t16b == (1 : Int))) h7)) (
            R (.bool false) h7)))) (
          R (.bool false) h5)) (
        R (.bool false) h5)) (
      R (.bool false) h5)))))))

def a_wherrylaw11_RingOwners : Ann := .seq .none (.seq (.seq .none (.cond (.seq .none .none) .none)) (.seq .none (.seq .none (.seq .none .none))))

theorem e_wherrylaw11_RingOwners (A : Amb) (hosts : Sl) (key : ByteArray) (shards : Int) (h : Heap) (R : Value → Heap → Prop) : F_wherrylaw11_RingOwners A hosts key shards h R = semFun A P f_wherrylaw11_RingOwners a_wherrylaw11_RingOwners [.slice hosts.p hosts.len hosts.cap, .string key, .int .i64 shards] h R := by kernel_rfl
theorem ok_wherrylaw11_RingOwners {A : Amb} {hosts : Sl} {key : ByteArray} {shards : Int} {h : Heap} {R : Value → Heap → Prop} (H : F_wherrylaw11_RingOwners A hosts key shards h R) : HCalls A P f_wherrylaw11_RingOwners #[.slice hosts.p hosts.len hosts.cap, .string key, .int .i64 shards] h R :=
  semFun_sound mixed (e_wherrylaw11_RingOwners A hosts key shards h R ▸ H)

/-- wherry/wherrylaw11.awake -/
def F_wherrylaw11_awake (A : Amb) (h : Heap) (R : Value → Heap → Prop) : Prop :=
  HCalls A P f_ring_Turn #[.complex .f64 4652218415073722368 0, .complex .f64 0 4652218415073722368] h fun v h1 => ∃ t1 : Int, v = .int .i64 t1 ∧ (
  PIf (t1 == (1024 : Int)) (
    HCalls A P f_ring_Turn #[.complex .f64 4652209618980700160 4607182418800017408, .complex .f64 4652218415073722368 0] h1 fun v1 h2 => ∃ t4 : Int, v1 = .int .i64 t4 ∧ (
    PIf (t4 == (4095 : Int)) (
      New h2 (.cells #[.string (⟨#[104]⟩ : ByteArray)] t_string) fun b h3 =>
      HCalls A P f_ring_Owner #[.slice (some (⟨b, 0, none⟩ : Addr)) 1 1, .string (⟨#[107]⟩ : ByteArray)] h3 fun v2 h4 => ∃ t9 : ByteArray, v2 = .string t9 ∧ (
      PIf (sEq t9 (⟨#[104]⟩ : ByteArray)) (
        HCalls A P f_ring_Right #[.complex .f64 4602678819172646912 0] h4 fun v3 h5 => ∃ t13 : Bool, v3 = .bool t13 ∧ (
        PIf (!t13) (
          HCalls A P f_ring_Name #[.int .i64 3] h5 fun v4 h6 => ∃ t17 : ByteArray, v4 = .string t17 ∧ (
          R (.bool (sEq t17 (⟨#[115, 104, 97, 114, 100, 32, 51]⟩ : ByteArray))) h6)) (
          R (.bool false) h5))) (
        R (.bool false) h4))) (
      R (.bool false) h2))) (
    R (.bool false) h1))

def a_wherrylaw11_awake : Ann := .seq .none (.seq .none .none)

theorem e_wherrylaw11_awake (A : Amb) (h : Heap) (R : Value → Heap → Prop) : F_wherrylaw11_awake A h R = semFun A P f_wherrylaw11_awake a_wherrylaw11_awake [] h R := by kernel_rfl
theorem ok_wherrylaw11_awake {A : Amb} {h : Heap} {R : Value → Heap → Prop} (H : F_wherrylaw11_awake A h R) : HCalls A P f_wherrylaw11_awake #[] h R :=
  semFun_sound mixed (e_wherrylaw11_awake A h R ▸ H)

/-- wherry/ring.Owner -/
def F_ring_Owner (A : Amb) (hosts : Sl) (key : ByteArray) (h : Heap) (R : Value → Heap → Prop) : Prop :=
  PIf (((hosts.len : Nat) : Int) == (0 : Int)) (
    R (.string (⟨#[]⟩ : ByteArray)) h) (
    HCalls A P f_ring_Place #[.string key] h fun v h1 => ∃ t10 : Nat × Nat, v = .complex .f64 t10.1 t10.2 ∧ (
    New h1 (.cells #[.complex .f64 0 0] t_complex128) fun b h2 =>
    Store h2 (⟨b, 0, none⟩ : Addr) (.complex .f64 t10.1 t10.2) fun h3 =>
    HCalls A P f_slices_MinFunc_of___string_string #[.slice hosts.p hosts.len hosts.cap, (.func (.func f_ring_Owner_1) #[] #[.pointer (some (⟨b, 0, none⟩ : Addr))])] h3 fun v1 h4 => ∃ t13 : ByteArray, v1 = .string t13 ∧ (
    R (.string t13) h4)))

def a_ring_Owner : Ann := .seq .none (.seq (.seq .none (.cond (.seq .none .none) .none)) (.seq .none (.seq .none .none)))

theorem e_ring_Owner (A : Amb) (hosts : Sl) (key : ByteArray) (h : Heap) (R : Value → Heap → Prop) : F_ring_Owner A hosts key h R = semFun A P f_ring_Owner a_ring_Owner [.slice hosts.p hosts.len hosts.cap, .string key] h R := by kernel_rfl
theorem ok_ring_Owner {A : Amb} {hosts : Sl} {key : ByteArray} {h : Heap} {R : Value → Heap → Prop} (H : F_ring_Owner A hosts key h R) : HCalls A P f_ring_Owner #[.slice hosts.p hosts.len hosts.cap, .string key] h R :=
  semFun_sound mixed (e_ring_Owner A hosts key h R ▸ H)

/-- wherry/ring.Place -/
def F_ring_Place (A : Amb) (name : ByteArray) (h : Heap) (R : Value → Heap → Prop) : Prop :=
  HCalls A P f_bloom_Hash #[.string name] h fun v h1 => ∃ t9a : Int, ∃ t9b : Int, v = .tuple #[.int .u32 t9a, .int .u32 t9b] ∧ (
  RunK A P (convert t_int t_float64 (.int .i64 (IntKind.wrap .i64 ((1024 : Int) - ((IntKind.wrap .i64 ((bXor .u32 t9a (t9b.fdiv ((2 : Int) ^ (7 : Nat)))).tmod (4096 : Int))).tmod (1024 : Int)))))) h1 fun v1 h2 => ∃ t21 : Nat, v1 = .float .f64 t21 ∧ (
  RunK A P (convert t_int t_float64 (.int .i64 ((IntKind.wrap .i64 ((bXor .u32 t9a (t9b.fdiv ((2 : Int) ^ (7 : Nat)))).tmod (4096 : Int))).tmod (1024 : Int)))) h2 fun v2 h3 => ∃ t24 : Nat, v2 = .float .f64 t24 ∧ (
  RunK A P (Builtin.complex_ #[t_float64, t_float64] t_complex128 #[.float .f64 t21, .float .f64 t24]) h3 fun v3 h4 => ∃ t25 : Nat × Nat, v3 = .complex .f64 t25.1 t25.2 ∧ (
  Loop (fun K (s : (Nat × Nat) × Int × Unit) h5 =>
    PIf (decide (s.2.1 < (IntKind.wrap .i64 ((IntKind.wrap .i64 ((bXor .u32 t9a (t9b.fdiv ((2 : Int) ^ (7 : Nat)))).tmod (4096 : Int))).tdiv (1024 : Int))))) (
      RunK A P (do eqGuard .mul t_complex128 (.tmp 30) (.const (.complex .f64 0 4607182418800017408)) (.complex .f64 s.1.1 s.1.2) (.complex .f64 0 4607182418800017408); binOp .mul t_complex128 (.complex .f64 s.1.1 s.1.2) (.complex .f64 0 4607182418800017408)) h5 fun v4 h6 => ∃ t31 : Nat × Nat, v4 = .complex .f64 t31.1 t31.2 ∧ (
      K ((t31.1, t31.2), (IntKind.wrap .i64 (s.2.1 + (1 : Int))), ()) h6)) (
      R (.complex .f64 s.1.1 s.1.2) h5)) ((t25.1, t25.2), 0, ()) h4))))

def a_ring_Place : Ann := .seq .none (.seq .none (.seq .none (.seq .none (.seq (.seq .none (.block (.loop [(6, .one (.cpx .f64)), (28, .one (.int .i64))] [27] (.seq .none (.seq (.cond .none .none) (.seq (.block .none) .none)))))) (.seq .none .none)))))

theorem e_ring_Place (A : Amb) (name : ByteArray) (h : Heap) (R : Value → Heap → Prop) : F_ring_Place A name h R = semFun A P f_ring_Place a_ring_Place [.string name] h R := by kernel_rfl
theorem ok_ring_Place {A : Amb} {name : ByteArray} {h : Heap} {R : Value → Heap → Prop} (H : F_ring_Place A name h R) : HCalls A P f_ring_Place #[.string name] h R :=
  semFun_sound mixed (e_ring_Place A name h R ▸ H)

/-- wherry/ring.Turn -/
def F_ring_Turn (A : Amb) (vfrom : Nat × Nat) (vto : Nat × Nat) (h : Heap) (R : Value → Heap → Prop) : Prop :=
  Join (fun (r : Bool × Unit) h1 =>
      PIf r.1 (
        R (.int .i64 (-1)) h1) (
        HCalls A P f_ring_at #[.complex .f64 vto.1 vto.2] h1 fun v h2 => ∃ t14 : Int, v = .int .i64 t14 ∧ (
        HCalls A P f_ring_at #[.complex .f64 vfrom.1 vfrom.2] h2 fun v1 h3 => ∃ t16 : Int, v1 = .int .i64 t16 ∧ (
        R (.int .i64 ((IntKind.wrap .i64 ((IntKind.wrap .i64 (t14 - t16)) + (4096 : Int))).tmod (4096 : Int))) h3)))) fun K =>
    HCalls A P f_ring_Right #[.complex .f64 vfrom.1 vfrom.2] h fun v2 h4 => ∃ t6 : Bool, v2 = .bool t6 ∧ (
    PIf (!t6) (
      K (true, ()) h4) (
      HCalls A P f_ring_Right #[.complex .f64 vto.1 vto.2] h4 fun v3 h5 => ∃ t10 : Bool, v3 = .bool t10 ∧ (
      K ((!t10), ()) h5)))

def a_ring_Turn : Ann := .seq .none (.seq (.seq (.reg [(12, .one .bool)] [0, 1]) (.cond (.seq .none .none) .none)) (.seq .none .none))

theorem e_ring_Turn (A : Amb) (vfrom : Nat × Nat) (vto : Nat × Nat) (h : Heap) (R : Value → Heap → Prop) : F_ring_Turn A vfrom vto h R = semFun A P f_ring_Turn a_ring_Turn [.complex .f64 vfrom.1 vfrom.2, .complex .f64 vto.1 vto.2] h R := by kernel_rfl
theorem ok_ring_Turn {A : Amb} {vfrom : Nat × Nat} {vto : Nat × Nat} {h : Heap} {R : Value → Heap → Prop} (H : F_ring_Turn A vfrom vto h R) : HCalls A P f_ring_Turn #[.complex .f64 vfrom.1 vfrom.2, .complex .f64 vto.1 vto.2] h R :=
  semFun_sound mixed (e_ring_Turn A vfrom vto h R ▸ H)

/-- wherry/ring.Right -/
def F_ring_Right (A : Amb) (p : Nat × Nat) (h : Heap) (R : Value → Heap → Prop) : Prop :=
  RunK A P (Builtin.real_ #[t_complex128] t_float64 #[.complex .f64 p.1 p.2]) h fun v h1 => ∃ t6 : Nat, v = .float .f64 t6 ∧ (
  RunK A P (Builtin.imag_ #[t_complex128] t_float64 #[.complex .f64 p.1 p.2]) h1 fun v1 h2 => ∃ t8 : Nat, v1 = .float .f64 t8 ∧ (
  Join (fun (r : Bool × Unit) h3 =>
      PIf r.1 (
        R (.bool false) h3) (
        RunK A P (Builtin.max_ #[t_float64, t_float64] t_float64 #[.float .f64 t6, .float .f64 (Op.negFloat .f64 t6)]) h3 fun v2 h4 => ∃ t41 : Nat, v2 = .float .f64 t41 ∧ (
        RunK A P (Builtin.max_ #[t_float64, t_float64] t_float64 #[.float .f64 t8, .float .f64 (Op.negFloat .f64 t8)]) h4 fun v3 h5 => ∃ t45 : Nat, v3 = .float .f64 t45 ∧ (
        RunK A P (do eqGuard .add t_float64 (.tmp 41) (.tmp 45) (.float .f64 t41) (.float .f64 t45); binOp .add t_float64 (.float .f64 t41) (.float .f64 t45)) h5 fun v4 h6 => ∃ t46 : Nat, v4 = .float .f64 t46 ∧ (
        RunK A P (do eqGuard .eql t_float64 (.tmp 46) (.const (.float .f64 4652218415073722368)) (.float .f64 t46) (.float .f64 4652218415073722368); binOp .eql t_float64 (.float .f64 t46) (.float .f64 4652218415073722368)) h6 fun v5 h7 => ∃ t47 : Bool, v5 = .bool t47 ∧ (
        R (.bool t47) h7)))))) fun K =>
    RunK A P (do eqGuard .geq t_float64 (.tmp 9) (.const (.float .f64 13875590451928498176)) (.float .f64 t6) (.float .f64 13875590451928498176); binOp .geq t_float64 (.float .f64 t6) (.float .f64 13875590451928498176)) h2 fun v6 h8 => ∃ t10 : Bool, v6 = .bool t10 ∧ (
    PIf t10 (
      RunK A P (do eqGuard .leq t_float64 (.tmp 12) (.const (.float .f64 4652218415073722368)) (.float .f64 t6) (.float .f64 4652218415073722368); binOp .leq t_float64 (.float .f64 t6) (.float .f64 4652218415073722368)) h8 fun v7 h9 => ∃ t13 : Bool, v7 = .bool t13 ∧ (
      PIf t13 (
        RunK A P (do eqGuard .geq t_float64 (.tmp 16) (.const (.float .f64 13875590451928498176)) (.float .f64 t8) (.float .f64 13875590451928498176); binOp .geq t_float64 (.float .f64 t8) (.float .f64 13875590451928498176)) h9 fun v8 h10 => ∃ t17 : Bool, v8 = .bool t17 ∧ (
        PIf t17 (
          RunK A P (do eqGuard .leq t_float64 (.tmp 20) (.const (.float .f64 4652218415073722368)) (.float .f64 t8) (.float .f64 4652218415073722368); binOp .leq t_float64 (.float .f64 t8) (.float .f64 4652218415073722368)) h10 fun v9 h11 => ∃ t21 : Bool, v9 = .bool t21 ∧ (
          PIf (!t21) (
            K (true, ()) h11) (
            RunK A P (convert t_float64 t_int (.float .f64 t6)) h11 fun v10 h12 => ∃ t27 : Int, v10 = .int .i64 t27 ∧ (
            RunK A P (convert t_int t_float64 (.int .i64 t27)) h12 fun v11 h13 => ∃ t28 : Nat, v11 = .float .f64 t28 ∧ (
            RunK A P (do eqGuard .neq t_float64 (.tmp 25) (.tmp 28) (.float .f64 t6) (.float .f64 t28); binOp .neq t_float64 (.float .f64 t6) (.float .f64 t28)) h13 fun v12 h14 => ∃ t29 : Bool, v12 = .bool t29 ∧ (
            PIf t29 (
              K (true, ()) h14) (
              RunK A P (convert t_float64 t_int (.float .f64 t8)) h14 fun v13 h15 => ∃ t34 : Int, v13 = .int .i64 t34 ∧ (
              RunK A P (convert t_int t_float64 (.int .i64 t34)) h15 fun v14 h16 => ∃ t35 : Nat, v14 = .float .f64 t35 ∧ (
              RunK A P (do eqGuard .neq t_float64 (.tmp 32) (.tmp 35) (.float .f64 t8) (.float .f64 t35); binOp .neq t_float64 (.float .f64 t8) (.float .f64 t35)) h16 fun v15 h17 => ∃ t36 : Bool, v15 = .bool t36 ∧ (
              K (t36, ()) h17)))))))))) (
          PIf (!false) (
            K (true, ()) h10) (
            RunK A P (convert t_float64 t_int (.float .f64 t6)) h10 fun v16 h18 => ∃ t27_1 : Int, v16 = .int .i64 t27_1 ∧ (
            RunK A P (convert t_int t_float64 (.int .i64 t27_1)) h18 fun v17 h19 => ∃ t28_1 : Nat, v17 = .float .f64 t28_1 ∧ (
            RunK A P (do eqGuard .neq t_float64 (.tmp 25) (.tmp 28) (.float .f64 t6) (.float .f64 t28_1); binOp .neq t_float64 (.float .f64 t6) (.float .f64 t28_1)) h19 fun v18 h20 => ∃ t29_1 : Bool, v18 = .bool t29_1 ∧ (
            PIf t29_1 (
              K (true, ()) h20) (
              RunK A P (convert t_float64 t_int (.float .f64 t8)) h20 fun v19 h21 => ∃ t34_1 : Int, v19 = .int .i64 t34_1 ∧ (
              RunK A P (convert t_int t_float64 (.int .i64 t34_1)) h21 fun v20 h22 => ∃ t35_1 : Nat, v20 = .float .f64 t35_1 ∧ (
              RunK A P (do eqGuard .neq t_float64 (.tmp 32) (.tmp 35) (.float .f64 t8) (.float .f64 t35_1); binOp .neq t_float64 (.float .f64 t8) (.float .f64 t35_1)) h22 fun v21 h23 => ∃ t36_1 : Bool, v21 = .bool t36_1 ∧ (
              K (t36_1, ()) h23))))))))))) (
        PIf (!false) (
          K (true, ()) h9) (
          RunK A P (convert t_float64 t_int (.float .f64 t6)) h9 fun v22 h24 => ∃ t27_2 : Int, v22 = .int .i64 t27_2 ∧ (
          RunK A P (convert t_int t_float64 (.int .i64 t27_2)) h24 fun v23 h25 => ∃ t28_2 : Nat, v23 = .float .f64 t28_2 ∧ (
          RunK A P (do eqGuard .neq t_float64 (.tmp 25) (.tmp 28) (.float .f64 t6) (.float .f64 t28_2); binOp .neq t_float64 (.float .f64 t6) (.float .f64 t28_2)) h25 fun v24 h26 => ∃ t29_2 : Bool, v24 = .bool t29_2 ∧ (
          PIf t29_2 (
            K (true, ()) h26) (
            RunK A P (convert t_float64 t_int (.float .f64 t8)) h26 fun v25 h27 => ∃ t34_2 : Int, v25 = .int .i64 t34_2 ∧ (
            RunK A P (convert t_int t_float64 (.int .i64 t34_2)) h27 fun v26 h28 => ∃ t35_2 : Nat, v26 = .float .f64 t35_2 ∧ (
            RunK A P (do eqGuard .neq t_float64 (.tmp 32) (.tmp 35) (.float .f64 t8) (.float .f64 t35_2); binOp .neq t_float64 (.float .f64 t8) (.float .f64 t35_2)) h28 fun v27 h29 => ∃ t36_2 : Bool, v27 = .bool t36_2 ∧ (
            K (t36_2, ()) h29))))))))))) (
      PIf (!false) (
        K (true, ()) h8) (
        RunK A P (convert t_float64 t_int (.float .f64 t6)) h8 fun v28 h30 => ∃ t27_3 : Int, v28 = .int .i64 t27_3 ∧ (
        RunK A P (convert t_int t_float64 (.int .i64 t27_3)) h30 fun v29 h31 => ∃ t28_3 : Nat, v29 = .float .f64 t28_3 ∧ (
        RunK A P (do eqGuard .neq t_float64 (.tmp 25) (.tmp 28) (.float .f64 t6) (.float .f64 t28_3); binOp .neq t_float64 (.float .f64 t6) (.float .f64 t28_3)) h31 fun v30 h32 => ∃ t29_3 : Bool, v30 = .bool t29_3 ∧ (
        PIf t29_3 (
          K (true, ()) h32) (
          RunK A P (convert t_float64 t_int (.float .f64 t8)) h32 fun v31 h33 => ∃ t34_3 : Int, v31 = .int .i64 t34_3 ∧ (
          RunK A P (convert t_int t_float64 (.int .i64 t34_3)) h33 fun v32 h34 => ∃ t35_3 : Nat, v32 = .float .f64 t35_3 ∧ (
          RunK A P (do eqGuard .neq t_float64 (.tmp 32) (.tmp 35) (.float .f64 t8) (.float .f64 t35_3); binOp .neq t_float64 (.float .f64 t8) (.float .f64 t35_3)) h34 fun v33 h35 => ∃ t36_3 : Bool, v33 = .bool t36_3 ∧ (
          K (t36_3, ()) h35))))))))))))

def a_ring_Right : Ann := .seq .none (.seq .none (.seq (.seq (.reg [(37, .one .bool)] [3, 4]) (.cond (.seq .none .none) .none)) (.seq .none .none)))

theorem e_ring_Right (A : Amb) (p : Nat × Nat) (h : Heap) (R : Value → Heap → Prop) : F_ring_Right A p h R = semFun A P f_ring_Right a_ring_Right [.complex .f64 p.1 p.2] h R := by kernel_rfl
theorem ok_ring_Right {A : Amb} {p : Nat × Nat} {h : Heap} {R : Value → Heap → Prop} (H : F_ring_Right A p h R) : HCalls A P f_ring_Right #[.complex .f64 p.1 p.2] h R :=
  semFun_sound mixed (e_ring_Right A p h R ▸ H)

/-- wherry/ring.Shard -/
def F_ring_Shard (A : Amb) (wid : ByteArray) (shards : Int) (h : Heap) (R : Value → Heap → Prop) : Prop :=
  Join (fun (r : Bool × Unit) h1 =>
      PIf r.1 (
        R (.tuple #[.int .i64 0, .int .i64 1]) h1) (
        HCalls A P f_bloom_Hash #[.string wid] h1 fun v h2 => ∃ t16a : Int, ∃ t16b : Int, v = .tuple #[.int .u32 t16a, .int .u32 t16b] ∧ (
        Chk (shards ≠ 0) <|
        R (.tuple #[.int .i64 ((IntKind.wrap .i64 (t16a.fdiv ((2 : Int) ^ (8 : Nat)))).tmod shards), .int .i64 0]) h2))) fun K =>
    PIf (decide (shards < (1 : Int))) (
      K (true, ()) h) (
      K ((decide (shards > (16 : Int))), ()) h)

def a_ring_Shard : Ann := .seq .none (.seq (.seq (.reg [(13, .one .bool)] [0, 1]) (.cond (.seq .none .none) .none)) (.seq .none (.seq .none .none)))

theorem e_ring_Shard (A : Amb) (wid : ByteArray) (shards : Int) (h : Heap) (R : Value → Heap → Prop) : F_ring_Shard A wid shards h R = semFun A P f_ring_Shard a_ring_Shard [.string wid, .int .i64 shards] h R := by kernel_rfl
theorem ok_ring_Shard {A : Amb} {wid : ByteArray} {shards : Int} {h : Heap} {R : Value → Heap → Prop} (H : F_ring_Shard A wid shards h R) : HCalls A P f_ring_Shard #[.string wid, .int .i64 shards] h R :=
  semFun_sound mixed (e_ring_Shard A wid shards h R ▸ H)

/-- wherry/wherryref11.Shard -/
def F_wherryref11_Shard (A : Amb) (wid : ByteArray) (shards : Int) (h : Heap) (R : Value → Heap → Prop) : Prop :=
  Join (fun (r : Bool × Unit) h1 =>
      PIf r.1 (
        R (.tuple #[.int .i64 0, .int .i64 1]) h1) (
        HCalls A P f_wherryref06_Hash #[.string wid] h1 fun v h2 => ∃ t16a : Int, ∃ t16b : Int, v = .tuple #[.int .u32 t16a, .int .u32 t16b] ∧ (
        Chk (shards ≠ 0) <|
        R (.tuple #[.int .i64 ((IntKind.wrap .i64 (IntKind.wrap .u32 (t16a.tdiv (256 : Int)))).tmod shards), .int .i64 0]) h2))) fun K =>
    PIf (decide (shards < (1 : Int))) (
      K (true, ()) h) (
      K ((decide (shards > (16 : Int))), ()) h)

def a_wherryref11_Shard : Ann := .seq .none (.seq (.seq (.reg [(13, .one .bool)] [0, 1]) (.cond (.seq .none .none) .none)) (.seq .none (.seq .none .none)))

theorem e_wherryref11_Shard (A : Amb) (wid : ByteArray) (shards : Int) (h : Heap) (R : Value → Heap → Prop) : F_wherryref11_Shard A wid shards h R = semFun A P f_wherryref11_Shard a_wherryref11_Shard [.string wid, .int .i64 shards] h R := by kernel_rfl
theorem ok_wherryref11_Shard {A : Amb} {wid : ByteArray} {shards : Int} {h : Heap} {R : Value → Heap → Prop} (H : F_wherryref11_Shard A wid shards h R) : HCalls A P f_wherryref11_Shard #[.string wid, .int .i64 shards] h R :=
  semFun_sound mixed (e_wherryref11_Shard A wid shards h R ▸ H)

/-- wherry/wherryref11.Owner -/
def F_wherryref11_Owner (A : Amb) (hosts : Sl) (key : ByteArray) (h : Heap) (R : Value → Heap → Prop) : Prop :=
  Loop (fun K (s : ByteArray × Int × Int × Unit) h1 =>
    PIf (decide (s.2.2.1 < ((hosts.len : Nat) : Int))) (
      Join (fun (s1 : ByteArray × Int × Unit) h2 =>
          K (s1.1, s1.2.1, (IntKind.wrap .i64 (s.2.2.1 + (1 : Int))), ()) h2) fun K1 =>
        Idx hosts.p hosts.len s.2.2.1 fun a =>
        LoadS h1 (a.add (s.2.2.1.toNat * 1)) fun t18 =>
        HCalls A P f_wherryref11_Steps #[.string t18] h1 fun v h3 => ∃ t19 : Int, v = .int .i64 t19 ∧ (
        HCalls A P f_wherryref11_Steps #[.string key] h3 fun v1 h4 => ∃ t21 : Int, v1 = .int .i64 t21 ∧ (
        Join (fun (r : Bool × Unit) h5 =>
            PIf r.1 (
              Idx hosts.p hosts.len s.2.2.1 fun a1 =>
              LoadS h5 (a1.add (s.2.2.1.toNat * 1)) fun t44 =>
              K1 (t44, ((IntKind.wrap .i64 ((IntKind.wrap .i64 (t19 - t21)) + (4096 : Int))).tmod (4096 : Int)), ()) h5) (
              K1 (s.1, s.2.1, ()) h5)) fun K2 =>
          PIf (decide (((IntKind.wrap .i64 ((IntKind.wrap .i64 (t19 - t21)) + (4096 : Int))).tmod (4096 : Int)) < s.2.1)) (
            K2 (true, ()) h4) (
            PIf (((IntKind.wrap .i64 ((IntKind.wrap .i64 (t19 - t21)) + (4096 : Int))).tmod (4096 : Int)) == s.2.1) (
              Idx hosts.p hosts.len s.2.2.1 fun a2 =>
              LoadS h4 (a2.add (s.2.2.1.toNat * 1)) fun t36 =>
              K2 ((sLt t36 s.1), ()) h4) (
              K2 (false, ()) h4))))) (
      R (.string s.1) h1)) ((⟨#[]⟩ : ByteArray), 4096, 0, ()) h

def a_wherryref11_Owner : Ann := .seq .none (.seq .none (.seq .none (.seq (.seq .none (.block (.loop [(5, .one .str), (6, .one (.int .i64)), (7, .one (.int .i64))] [0, 1] (.seq (.seq .none (.cond .none .none)) (.seq (.blockJ [(5, .one .str), (6, .one (.int .i64))] [0, 1, 7] (.seq .none (.seq (.reg [(40, .one .bool)] [0, 1, 5, 6, 7, 8]) (.cond (.seq .none .none) .none)))) .none))))) (.seq .none .none))))

theorem e_wherryref11_Owner (A : Amb) (hosts : Sl) (key : ByteArray) (h : Heap) (R : Value → Heap → Prop) : F_wherryref11_Owner A hosts key h R = semFun A P f_wherryref11_Owner a_wherryref11_Owner [.slice hosts.p hosts.len hosts.cap, .string key] h R := by kernel_rfl
theorem ok_wherryref11_Owner {A : Amb} {hosts : Sl} {key : ByteArray} {h : Heap} {R : Value → Heap → Prop} (H : F_wherryref11_Owner A hosts key h R) : HCalls A P f_wherryref11_Owner #[.slice hosts.p hosts.len hosts.cap, .string key] h R :=
  semFun_sound mixed (e_wherryref11_Owner A hosts key h R ▸ H)

/-- wherry/ring.Name -/
def F_ring_Name (A : Amb) (shard : Int) (h : Heap) (R : Value → Heap → Prop) : Prop :=
  HCalls A P f_strconv_Itoa #[.int .i64 (if (0 : Int) > shard then 0 else shard)] h fun v h1 => ∃ t5 : ByteArray, v = .string t5 ∧ (
  Chk ((((⟨#[115, 104, 97, 114, 100, 32]⟩ : ByteArray).size + t5.size : Nat) : Int) ≤ IntKind.i64.max) <|
  R (.string ((⟨#[115, 104, 97, 114, 100, 32]⟩ : ByteArray) ++ t5)) h1)

def a_ring_Name : Ann := .seq .none (.seq .none .none)

theorem e_ring_Name (A : Amb) (shard : Int) (h : Heap) (R : Value → Heap → Prop) : F_ring_Name A shard h R = semFun A P f_ring_Name a_ring_Name [.int .i64 shard] h R := by kernel_rfl
theorem ok_ring_Name {A : Amb} {shard : Int} {h : Heap} {R : Value → Heap → Prop} (H : F_ring_Name A shard h R) : HCalls A P f_ring_Name #[.int .i64 shard] h R :=
  semFun_sound mixed (e_ring_Name A shard h R ▸ H)

/-- wherry/wherryref11.Name -/
def F_wherryref11_Name (A : Amb) (shard : Int) (h : Heap) (R : Value → Heap → Prop) : Prop :=
  HCalls A P f_strconv_Itoa #[.int .i64 (if (0 : Int) > shard then 0 else shard)] h fun v h1 => ∃ t5 : ByteArray, v = .string t5 ∧ (
  Chk ((((⟨#[115, 104, 97, 114, 100, 32]⟩ : ByteArray).size + t5.size : Nat) : Int) ≤ IntKind.i64.max) <|
  R (.string ((⟨#[115, 104, 97, 114, 100, 32]⟩ : ByteArray) ++ t5)) h1)

def a_wherryref11_Name : Ann := .seq .none (.seq .none .none)

theorem e_wherryref11_Name (A : Amb) (shard : Int) (h : Heap) (R : Value → Heap → Prop) : F_wherryref11_Name A shard h R = semFun A P f_wherryref11_Name a_wherryref11_Name [.int .i64 shard] h R := by kernel_rfl
theorem ok_wherryref11_Name {A : Amb} {shard : Int} {h : Heap} {R : Value → Heap → Prop} (H : F_wherryref11_Name A shard h R) : HCalls A P f_wherryref11_Name #[.int .i64 shard] h R :=
  semFun_sound mixed (e_wherryref11_Name A shard h R ▸ H)

/-- wherry/ring.Owner$1 -/
def F_ring_Owner_1 (A : Amb) (a : ByteArray) (b : ByteArray) (c0 : Option Addr) (h : Heap) (R : Value → Heap → Prop) : Prop :=
  At c0 fun a1 =>
  LoadC .f64 h a1 fun t6 =>
  HCalls A P f_ring_Place #[.string a] h fun v h1 => ∃ t8 : Nat × Nat, v = .complex .f64 t8.1 t8.2 ∧ (
  (hget h1 a1 = some (.complex .f64 t6.1 t6.2)) ∧
  HCalls A P f_ring_Turn #[.complex .f64 t6.1 t6.2, .complex .f64 t8.1 t8.2] h1 fun v1 h2 => ∃ t9 : Int, v1 = .int .i64 t9 ∧ (
  At c0 fun a2 =>
  LoadC .f64 h2 a2 fun t10 =>
  And (hget h1 a2 = some (.complex .f64 t10.1 t10.2)) <|
  And (hget h a2 = some (.complex .f64 t10.1 t10.2)) <|
  HCalls A P f_ring_Place #[.string b] h2 fun v2 h3 => ∃ t12 : Nat × Nat, v2 = .complex .f64 t12.1 t12.2 ∧ (
  (hget h3 a2 = some (.complex .f64 t10.1 t10.2)) ∧
  HCalls A P f_ring_Turn #[.complex .f64 t10.1 t10.2, .complex .f64 t12.1 t12.2] h3 fun v3 h4 => ∃ t13 : Int, v3 = .int .i64 t13 ∧ (
  HCalls A P f_cmp_Compare_of_int #[.int .i64 t9, .int .i64 t13] h4 fun v4 h5 => ∃ t14 : Int, v4 = .int .i64 t14 ∧ (
  HCalls A P f_cmp_Compare_of_string #[.string a, .string b] h5 fun v5 h6 => ∃ t17 : Int, v5 = .int .i64 t17 ∧ (
  New h6 (.cells #[.int .i64 t14, .int .i64 t17] t_int) fun b1 h7 =>
  HCalls A P f_cmp_Or_of_int #[.slice (some (⟨b1, 0, none⟩ : Addr)) 2 2] h7 fun v6 h8 => ∃ t19 : Int, v6 = .int .i64 t19 ∧ (
  R (.int .i64 t19) h8)))))))

def a_ring_Owner_1 : Ann := .seq .none (.seq .none .none)

theorem e_ring_Owner_1 (A : Amb) (a : ByteArray) (b : ByteArray) (c0 : Option Addr) (h : Heap) (R : Value → Heap → Prop) : F_ring_Owner_1 A a b c0 h R = semFun A P f_ring_Owner_1 a_ring_Owner_1 [.string a, .string b, .pointer c0] h R := by kernel_rfl
theorem ok_ring_Owner_1 {A : Amb} {a : ByteArray} {b : ByteArray} {c0 : Option Addr} {h : Heap} {R : Value → Heap → Prop} (H : F_ring_Owner_1 A a b c0 h R) : HCalls A P f_ring_Owner_1 #[.string a, .string b, .pointer c0] h R :=
  semFun_sound mixed (e_ring_Owner_1 A a b c0 h R ▸ H)

/-- wherry/bloom.Hash -/
def F_bloom_Hash (A : Amb) (key : ByteArray) (h : Heap) (R : Value → Heap → Prop) : Prop :=
  Loop (fun K (s : Int × Int × Int × Unit) h1 =>
    PIf (decide (s.2.2.1 < (key.size : Int))) (
      Chk ((0 : Int) ≤ s.2.2.1 ∧ s.2.2.1 < (key.size : Int)) <|
      Chk ((0 : Int) ≤ s.2.2.1 ∧ s.2.2.1 < (key.size : Int)) <|
      K ((IntKind.wrap .u32 ((bXor .u32 s.1 (IntKind.wrap .u32 (sAt key s.2.2.1))) * (16777619 : Int))), (bXor .u32 (IntKind.wrap .u32 ((IntKind.wrap .u32 (s.2.1 + (IntKind.wrap .u32 (sAt key s.2.2.1)))) * (2246822507 : Int))) ((IntKind.wrap .u32 ((IntKind.wrap .u32 (s.2.1 + (IntKind.wrap .u32 (sAt key s.2.2.1)))) * (2246822507 : Int))).fdiv ((2 : Int) ^ (13 : Nat)))), (IntKind.wrap .i64 (s.2.2.1 + (1 : Int))), ()) h1) (
      R (.tuple #[.int .u32 s.1, .int .u32 (bOr .u32 s.2.1 (1 : Int))]) h1)) (2166136261, 2538058380, 0, ()) h

def a_bloom_Hash : Ann := .seq .none (.seq .none (.seq (.seq .none (.block (.loop [(4, .one (.int .u32)), (5, .one (.int .u32)), (9, .one (.int .i64))] [0, 8] (.seq .none (.seq (.cond .none .none) (.seq (.block (.seq .none (.seq .none (.seq .none .none)))) .none)))))) (.seq .none .none)))

theorem e_bloom_Hash (A : Amb) (key : ByteArray) (h : Heap) (R : Value → Heap → Prop) : F_bloom_Hash A key h R = semFun A P f_bloom_Hash a_bloom_Hash [.string key] h R := by kernel_rfl
theorem ok_bloom_Hash {A : Amb} {key : ByteArray} {h : Heap} {R : Value → Heap → Prop} (H : F_bloom_Hash A key h R) : HCalls A P f_bloom_Hash #[.string key] h R :=
  semFun_sound mixed (e_bloom_Hash A key h R ▸ H)

/-- wherry/ring.at -/
def F_ring_at (A : Amb) (p : Nat × Nat) (h : Heap) (R : Value → Heap → Prop) : Prop :=
  Loop (fun K (s : (Nat × Nat) × Int × Unit) h1 =>
    Join (fun (r : Bool × Unit) h2 =>
        PIf r.1 (
          RunK A P (do eqGuard .mul t_complex128 (.tmp 13) (.const (.complex .f64 0 13830554455654793216)) (.complex .f64 s.1.1 s.1.2) (.complex .f64 0 13830554455654793216); binOp .mul t_complex128 (.complex .f64 s.1.1 s.1.2) (.complex .f64 0 13830554455654793216)) h2 fun v h3 => ∃ t14 : Nat × Nat, v = .complex .f64 t14.1 t14.2 ∧ (
          K ((t14.1, t14.2), (IntKind.wrap .i64 (s.2.1 + (1024 : Int))), ()) h3)) (
          RunK A P (Builtin.imag_ #[t_complex128] t_float64 #[.complex .f64 s.1.1 s.1.2]) h2 fun v1 h4 => ∃ t19 : Nat, v1 = .float .f64 t19 ∧ (
          RunK A P (convert t_float64 t_int (.float .f64 t19)) h4 fun v2 h5 => ∃ t20 : Int, v2 = .int .i64 t20 ∧ (
          R (.int .i64 (IntKind.wrap .i64 (s.2.1 + t20))) h5)))) fun K1 =>
      RunK A P (Builtin.real_ #[t_complex128] t_float64 #[.complex .f64 s.1.1 s.1.2]) h1 fun v3 h6 => ∃ t5 : Nat, v3 = .float .f64 t5 ∧ (
      RunK A P (do eqGuard .gtr t_float64 (.tmp 5) (.const (.float .f64 0)) (.float .f64 t5) (.float .f64 0); binOp .gtr t_float64 (.float .f64 t5) (.float .f64 0)) h6 fun v4 h7 => ∃ t6 : Bool, v4 = .bool t6 ∧ (
      PIf t6 (
        RunK A P (Builtin.imag_ #[t_complex128] t_float64 #[.complex .f64 s.1.1 s.1.2]) h7 fun v5 h8 => ∃ t9 : Nat, v5 = .float .f64 t9 ∧ (
        RunK A P (do eqGuard .geq t_float64 (.tmp 9) (.const (.float .f64 0)) (.float .f64 t9) (.float .f64 0); binOp .geq t_float64 (.float .f64 t9) (.float .f64 0)) h8 fun v6 h9 => ∃ t10 : Bool, v6 = .bool t10 ∧ (
        K1 ((!t10), ()) h9))) (
        K1 ((!false), ()) h7)))) ((p.1, p.2), 0, ()) h

def a_ring_at : Ann := .seq .none (.seq .none (.seq (.block (.loop [(0, .one (.cpx .f64)), (3, .one (.int .i64))] [] (.seq (.seq (.reg [(12, .one .bool)] [0, 3]) (.cond .none .none)) (.block (.seq .none .none))))) (.seq .none .none)))

theorem e_ring_at (A : Amb) (p : Nat × Nat) (h : Heap) (R : Value → Heap → Prop) : F_ring_at A p h R = semFun A P f_ring_at a_ring_at [.complex .f64 p.1 p.2] h R := by kernel_rfl
theorem ok_ring_at {A : Amb} {p : Nat × Nat} {h : Heap} {R : Value → Heap → Prop} (H : F_ring_at A p h R) : HCalls A P f_ring_at #[.complex .f64 p.1 p.2] h R :=
  semFun_sound mixed (e_ring_at A p h R ▸ H)

/-- wherry/wherryref06.Hash -/
def F_wherryref06_Hash (A : Amb) (key : ByteArray) (h : Heap) (R : Value → Heap → Prop) : Prop :=
  Loop (fun K (s : Int × Int × Int × Unit) h1 =>
    PIf (decide (s.2.2.1 < (key.size : Int))) (
      Chk ((0 : Int) ≤ s.2.2.1 ∧ s.2.2.1 < (key.size : Int)) <|
      Chk ((0 : Int) ≤ s.2.2.1 ∧ s.2.2.1 < (key.size : Int)) <|
      K ((bAnd .u64 (IntKind.wrap .u64 ((bXor .u64 s.1 (IntKind.wrap .u64 (sAt key s.2.2.1))) * (16777619 : Int))) (4294967295 : Int)), (bXor .u64 (bAnd .u64 (IntKind.wrap .u64 ((bAnd .u64 (IntKind.wrap .u64 (s.2.1 + (IntKind.wrap .u64 (sAt key s.2.2.1)))) (4294967295 : Int)) * (2246822507 : Int))) (4294967295 : Int)) (IntKind.wrap .u64 ((bAnd .u64 (IntKind.wrap .u64 ((bAnd .u64 (IntKind.wrap .u64 (s.2.1 + (IntKind.wrap .u64 (sAt key s.2.2.1)))) (4294967295 : Int)) * (2246822507 : Int))) (4294967295 : Int)).tdiv (8192 : Int)))), (IntKind.wrap .i64 (s.2.2.1 + (1 : Int))), ()) h1) (
      R (.tuple #[.int .u32 (IntKind.wrap .u32 s.1), .int .u32 (IntKind.wrap .u32 (bOr .u64 s.2.1 (1 : Int)))]) h1)) (2166136261, 2538058380, 0, ()) h

def a_wherryref06_Hash : Ann := .seq .none (.seq .none (.seq .none (.seq (.seq .none (.block (.loop [(4, .one (.int .u64)), (5, .one (.int .u64)), (6, .one (.int .i64))] [0] (.seq (.seq .none (.cond .none .none)) (.seq (.block (.seq .none (.seq .none (.seq .none .none)))) .none))))) (.seq .none .none))))

theorem e_wherryref06_Hash (A : Amb) (key : ByteArray) (h : Heap) (R : Value → Heap → Prop) : F_wherryref06_Hash A key h R = semFun A P f_wherryref06_Hash a_wherryref06_Hash [.string key] h R := by kernel_rfl
theorem ok_wherryref06_Hash {A : Amb} {key : ByteArray} {h : Heap} {R : Value → Heap → Prop} (H : F_wherryref06_Hash A key h R) : HCalls A P f_wherryref06_Hash #[.string key] h R :=
  semFun_sound mixed (e_wherryref06_Hash A key h R ▸ H)

/-- wherry/wherryref11.Steps -/
def F_wherryref11_Steps (A : Amb) (name : ByteArray) (h : Heap) (R : Value → Heap → Prop) : Prop :=
  HCalls A P f_wherryref06_Hash #[.string name] h fun v h1 => ∃ t7a : Int, ∃ t7b : Int, v = .tuple #[.int .u32 t7a, .int .u32 t7b] ∧ (
  R (.int .i64 (IntKind.wrap .i64 ((bXor .u32 t7a (IntKind.wrap .u32 (t7b.tdiv (128 : Int)))).tmod (4096 : Int)))) h1)

def a_wherryref11_Steps : Ann := .seq .none (.seq .none (.seq .none .none))

theorem e_wherryref11_Steps (A : Amb) (name : ByteArray) (h : Heap) (R : Value → Heap → Prop) : F_wherryref11_Steps A name h R = semFun A P f_wherryref11_Steps a_wherryref11_Steps [.string name] h R := by kernel_rfl
theorem ok_wherryref11_Steps {A : Amb} {name : ByteArray} {h : Heap} {R : Value → Heap → Prop} (H : F_wherryref11_Steps A name h R) : HCalls A P f_wherryref11_Steps #[.string name] h R :=
  semFun_sound mixed (e_wherryref11_Steps A name h R ▸ H)

/-- slices.MinFunc[[]string,string] -/
def F_slices_MinFunc_of___string_string (A : Amb) (x : Sl) (cmp : Value) (h : Heap) (R : Value → Heap → Prop) : Prop :=
  Join (fun (s : Unit) h1 =>
      Idx x.p x.len 0 fun a =>
      LoadS h1 (a.add ((0 : Int).toNat * 1)) fun t13 =>
      Loop (fun K1 (s1 : ByteArray × Int × Unit) h2 =>
        PIf (decide (s1.2.1 < ((x.len : Nat) : Int))) (
          Join (fun (s2 : ByteArray × Unit) h3 =>
              K1 (s2.1, (IntKind.wrap .i64 (s1.2.1 + (1 : Int))), ()) h3) fun K2 =>
            Idx x.p x.len s1.2.1 fun a1 =>
            LoadS h2 (a1.add (s1.2.1.toNat * 1)) fun t24 =>
            CallV A P cmp #[.string t24, .string s1.1] h2 fun v h4 => ∃ t26 : Int, v = .int .i64 t26 ∧ (
            PIf (decide (t26 < (0 : Int))) (
              Idx x.p x.len s1.2.1 fun a2 =>
              LoadS h4 (a2.add (s1.2.1.toNat * 1)) fun t31 =>
              K2 (t31, ()) h4) (
              K2 (s1.1, ()) h4))) (
          R (.string s1.1) h2)) (t13, 1, ()) h1) fun K =>
    PIf (decide (((x.len : Nat) : Int) < (1 : Int))) (
      False) (
      K () h)

def a_slices_MinFunc_of___string_string : Ann := .seq .none (.seqJ [] [0, 1] (.seq .none (.cond .none .none)) (.seq .none (.seq (.seq .none (.block (.loop [(5, .one .str), (6, .one (.int .i64))] [0, 1] (.seq (.seq .none (.cond .none .none)) (.seq (.blockJ [(5, .one .str)] [0, 1, 6] (.seq .none (.cond .none .none))) .none))))) (.seq .none .none))))

theorem e_slices_MinFunc_of___string_string (A : Amb) (x : Sl) (cmp : Value) (h : Heap) (R : Value → Heap → Prop) : F_slices_MinFunc_of___string_string A x cmp h R = semFun A P f_slices_MinFunc_of___string_string a_slices_MinFunc_of___string_string [.slice x.p x.len x.cap, cmp] h R := by kernel_rfl
theorem ok_slices_MinFunc_of___string_string {A : Amb} {x : Sl} {cmp : Value} {h : Heap} {R : Value → Heap → Prop} (H : F_slices_MinFunc_of___string_string A x cmp h R) : HCalls A P f_slices_MinFunc_of___string_string #[.slice x.p x.len x.cap, cmp] h R :=
  semFun_sound mixed (e_slices_MinFunc_of___string_string A x cmp h R ▸ H)

/-- cmp.Or[int] -/
def F_cmp_Or_of_int (A : Amb) (vals : Sl) (h : Heap) (R : Value → Heap → Prop) : Prop :=
  Loop (fun K (s : Int × Unit) h1 =>
    PIf (decide (s.1 < ((vals.len : Nat) : Int))) (
      Idx vals.p vals.len s.1 fun a =>
      LoadI .i64 h1 (a.add (s.1.toNat * 1)) fun t11 =>
      PIf (t11 != (0 : Int)) (
        R (.int .i64 t11) h1) (
        K ((IntKind.wrap .i64 (s.1 + (1 : Int))), ()) h1)) (
      R (.int .i64 0) h1)) (0, ()) h

def a_cmp_Or_of_int : Ann := .seq .none (.seq .none (.seq (.seq .none (.block (.loop [(8, .one (.int .i64))] [3, 6, 7] (.seq .none (.seq (.cond .none .none) (.seq (.block (.seq .none (.seq .none (.cond (.seq .none .none) .none)))) .none)))))) (.seq .none .none)))

theorem e_cmp_Or_of_int (A : Amb) (vals : Sl) (h : Heap) (R : Value → Heap → Prop) : F_cmp_Or_of_int A vals h R = semFun A P f_cmp_Or_of_int a_cmp_Or_of_int [.slice vals.p vals.len vals.cap] h R := by kernel_rfl
theorem ok_cmp_Or_of_int {A : Amb} {vals : Sl} {h : Heap} {R : Value → Heap → Prop} (H : F_cmp_Or_of_int A vals h R) : HCalls A P f_cmp_Or_of_int #[.slice vals.p vals.len vals.cap] h R :=
  semFun_sound mixed (e_cmp_Or_of_int A vals h R ▸ H)

/-- cmp.Compare[int] -/
def F_cmp_Compare_of_int (A : Amb) (x : Int) (y : Int) (h : Heap) (R : Value → Heap → Prop) : Prop :=
  HCalls A P f_cmp_isNaN_of_int #[.int .i64 x] h fun v h1 => ∃ t8 : Bool, v = .bool t8 ∧ (
  HCalls A P f_cmp_isNaN_of_int #[.int .i64 y] h1 fun v1 h2 => ∃ t10 : Bool, v1 = .bool t10 ∧ (
  PIf t8 (
    PIf t10 (
      R (.int .i64 0) h2) (
      R (.int .i64 (-1)) h2)) (
    PIf t10 (
      R (.int .i64 1) h2) (
      PIf (decide (x < y)) (
        R (.int .i64 (-1)) h2) (
        PIf (decide (x > y)) (
          R (.int .i64 1) h2) (
          R (.int .i64 0) h2))))))

def a_cmp_Compare_of_int : Ann := .seq .none (.seq .none (.seq .none (.seq (.seq .none (.cond (.seq (.seq .none (.cond (.seq .none .none) .none)) (.seq .none .none)) .none)) (.seq (.seq .none (.cond (.seq .none .none) .none)) (.seq (.seq .none (.cond (.seq .none .none) .none)) (.seq (.seq .none (.cond (.seq .none .none) .none)) (.seq .none .none)))))))

theorem e_cmp_Compare_of_int (A : Amb) (x : Int) (y : Int) (h : Heap) (R : Value → Heap → Prop) : F_cmp_Compare_of_int A x y h R = semFun A P f_cmp_Compare_of_int a_cmp_Compare_of_int [.int .i64 x, .int .i64 y] h R := by kernel_rfl
theorem ok_cmp_Compare_of_int {A : Amb} {x : Int} {y : Int} {h : Heap} {R : Value → Heap → Prop} (H : F_cmp_Compare_of_int A x y h R) : HCalls A P f_cmp_Compare_of_int #[.int .i64 x, .int .i64 y] h R :=
  semFun_sound mixed (e_cmp_Compare_of_int A x y h R ▸ H)

/-- cmp.Compare[string] -/
def F_cmp_Compare_of_string (A : Amb) (x : ByteArray) (y : ByteArray) (h : Heap) (R : Value → Heap → Prop) : Prop :=
  HCalls A P f_cmp_isNaN_of_string #[.string x] h fun v h1 => ∃ t8 : Bool, v = .bool t8 ∧ (
  HCalls A P f_cmp_isNaN_of_string #[.string y] h1 fun v1 h2 => ∃ t10 : Bool, v1 = .bool t10 ∧ (
  PIf t8 (
    PIf t10 (
      R (.int .i64 0) h2) (
      R (.int .i64 (-1)) h2)) (
    PIf t10 (
      R (.int .i64 1) h2) (
      PIf (sLt x y) (
        R (.int .i64 (-1)) h2) (
        PIf (!(sLt x y || sEq x y)) (
          R (.int .i64 1) h2) (
          R (.int .i64 0) h2))))))

def a_cmp_Compare_of_string : Ann := .seq .none (.seq .none (.seq .none (.seq (.seq .none (.cond (.seq (.seq .none (.cond (.seq .none .none) .none)) (.seq .none .none)) .none)) (.seq (.seq .none (.cond (.seq .none .none) .none)) (.seq (.seq .none (.cond (.seq .none .none) .none)) (.seq (.seq .none (.cond (.seq .none .none) .none)) (.seq .none .none)))))))

theorem e_cmp_Compare_of_string (A : Amb) (x : ByteArray) (y : ByteArray) (h : Heap) (R : Value → Heap → Prop) : F_cmp_Compare_of_string A x y h R = semFun A P f_cmp_Compare_of_string a_cmp_Compare_of_string [.string x, .string y] h R := by kernel_rfl
theorem ok_cmp_Compare_of_string {A : Amb} {x : ByteArray} {y : ByteArray} {h : Heap} {R : Value → Heap → Prop} (H : F_cmp_Compare_of_string A x y h R) : HCalls A P f_cmp_Compare_of_string #[.string x, .string y] h R :=
  semFun_sound mixed (e_cmp_Compare_of_string A x y h R ▸ H)

/-- cmp.isNaN[int] -/
def F_cmp_isNaN_of_int (A : Amb) (x : Int) (h : Heap) (R : Value → Heap → Prop) : Prop :=
  R (.bool (x != x)) h

def a_cmp_isNaN_of_int : Ann := .seq .none (.seq .none .none)

theorem e_cmp_isNaN_of_int (A : Amb) (x : Int) (h : Heap) (R : Value → Heap → Prop) : F_cmp_isNaN_of_int A x h R = semFun A P f_cmp_isNaN_of_int a_cmp_isNaN_of_int [.int .i64 x] h R := by kernel_rfl
theorem ok_cmp_isNaN_of_int {A : Amb} {x : Int} {h : Heap} {R : Value → Heap → Prop} (H : F_cmp_isNaN_of_int A x h R) : HCalls A P f_cmp_isNaN_of_int #[.int .i64 x] h R :=
  semFun_sound mixed (e_cmp_isNaN_of_int A x h R ▸ H)

/-- cmp.isNaN[string] -/
def F_cmp_isNaN_of_string (A : Amb) (x : ByteArray) (h : Heap) (R : Value → Heap → Prop) : Prop :=
  R (.bool (!sEq x x)) h

def a_cmp_isNaN_of_string : Ann := .seq .none (.seq .none .none)

theorem e_cmp_isNaN_of_string (A : Amb) (x : ByteArray) (h : Heap) (R : Value → Heap → Prop) : F_cmp_isNaN_of_string A x h R = semFun A P f_cmp_isNaN_of_string a_cmp_isNaN_of_string [.string x] h R := by kernel_rfl
theorem ok_cmp_isNaN_of_string {A : Amb} {x : ByteArray} {h : Heap} {R : Value → Heap → Prop} (H : F_cmp_isNaN_of_string A x h R) : HCalls A P f_cmp_isNaN_of_string #[.string x] h R :=
  semFun_sound mixed (e_cmp_isNaN_of_string A x h R ▸ H)

end Go.Lf.G
