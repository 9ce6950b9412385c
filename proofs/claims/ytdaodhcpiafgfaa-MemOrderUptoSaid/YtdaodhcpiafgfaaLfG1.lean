/-
  The formulas of functions, printed by lift.py; each with the theorem that it is what the lift reckons of the program.
-/
import Derived.Test.YtdaodhcpiafgfaaLfN1
set_option linter.unusedVariables false
set_option maxRecDepth 100000
namespace Go.Lf.G

/-- wherry/wherrylaw08.MergeAll -/
def F_wherrylaw08_MergeAll (A : Amb) (lists : Sl) (h : Heap) (R : Value → Heap → Prop) : Prop :=
  HCalls A P f_wherrylaw08_awake #[] h fun v h1 => ∃ t4 : Bool, v = .bool t4 ∧ (
  PIf (!t4) (
    R (.bool false) h1) (
    HCalls A P f_wherrylaw08_ordered #[.slice lists.p lists.len lists.cap] h1 fun v1 h2 => ∃ t7 : Sl, v1 = .slice t7.p t7.len t7.cap ∧ (
    HCalls A P f_wherrylaw08_seqs #[.slice t7.p t7.len t7.cap] h2 fun v2 h3 => ∃ t9 : Sl, v2 = .slice t9.p t9.len t9.cap ∧ (
    HCalls A P f_merge_All #[.slice t9.p t9.len t9.cap] h3 fun v3 h4 => ∃ t10 : Value, v3 = t10 ∧ (
    HCalls A P f_slices_Collect_of_api_Pair #[t10] h4 fun v4 h5 => ∃ t11 : Sl, v4 = .slice t11.p t11.len t11.cap ∧ (
    HCalls A P f_wherryref08_All #[.slice t7.p t7.len t7.cap] h5 fun v5 h6 => ∃ t13 : Sl, v5 = .slice t13.p t13.len t13.cap ∧ (
    HCalls A P f_wherryref05_Same #[.slice t11.p t11.len t11.cap, .slice t13.p t13.len t13.cap] h6 fun v6 h7 => ∃ t14 : Bool, v6 = .bool t14 ∧ (
    R (.bool t14) h7))))))))

def a_wherrylaw08_MergeAll : Ann := .seq .none (.seq (.seq .none (.cond (.seq .none .none) .none)) (.seq .none (.seq .none .none)))

theorem e_wherrylaw08_MergeAll (A : Amb) (lists : Sl) (h : Heap) (R : Value → Heap → Prop) : F_wherrylaw08_MergeAll A lists h R = semFun A P f_wherrylaw08_MergeAll a_wherrylaw08_MergeAll [.slice lists.p lists.len lists.cap] h R := by kernel_rfl
theorem ok_wherrylaw08_MergeAll {A : Amb} {lists : Sl} {h : Heap} {R : Value → Heap → Prop} (H : F_wherrylaw08_MergeAll A lists h R) : HCalls A P f_wherrylaw08_MergeAll #[.slice lists.p lists.len lists.cap] h R :=
  semFun_sound mixed (e_wherrylaw08_MergeAll A lists h R ▸ H)

/-- wherry/wherrylaw08.MergeStops -/
def F_wherrylaw08_MergeStops (A : Amb) (lists : Sl) (most : Int) (h : Heap) (R : Value → Heap → Prop) : Prop :=
  New h (.cells #[.int .i64 most] t_int) fun b h1 =>
  HCalls A P f_wherrylaw08_awake #[] h1 fun v h2 => ∃ t10 : Bool, v = .bool t10 ∧ (
  PIf (!t10) (
    R (.bool false) h2) (
    HCalls A P f_wherrylaw08_ordered #[.slice lists.p lists.len lists.cap] h2 fun v1 h3 => ∃ t13 : Sl, v1 = .slice t13.p t13.len t13.cap ∧ (
    HCalls A P f_wherrylaw08_seqs #[.slice t13.p t13.len t13.cap] h3 fun v2 h4 => ∃ t15 : Sl, v2 = .slice t15.p t15.len t15.cap ∧ (
    HCalls A P f_merge_All #[.slice t15.p t15.len t15.cap] h4 fun v3 h5 => ∃ t16 : Value, v3 = t16 ∧ (
    HCalls A P f_wherryref08_All #[.slice t13.p t13.len t13.cap] h5 fun v4 h6 => ∃ t18 : Sl, v4 = .slice t18.p t18.len t18.cap ∧ (
    New h6 (.cells #[.slice none 0 0] t_sl_api_Pair) fun b1 h7 =>
    RangeK A P t16 [.agg [.str, .str, .bool]] (fun (args : (ByteArray × ByteArray × Bool × Unit) × Unit) l h8 kn kj =>
        New h8 (.cells #[.string (⟨#[]⟩ : ByteArray), .string (⟨#[]⟩ : ByteArray), .bool false] t_api_Pair) fun b2 h10 =>
        Store h10 (⟨b2, 0, none⟩ : Addr) (.string args.1.1) fun h11 =>
        Store h11 ((⟨b2, 0, none⟩ : Addr).add 1) (.string args.1.2.1) fun h12 =>
        Store h12 ((⟨b2, 0, none⟩ : Addr).add 2) (.bool args.1.2.2.1) fun h13 =>
        ∃ vrec : Go.Loop, h13[l]? = some (.loop vrec) ∧ vrec.state = .ready ∧ (
          LoadL (h13.setIfInBounds l (.loop { vrec with state := .busy })) (⟨b1, 0, none⟩ : Addr) fun t21 =>
          LoadI .i64 (h13.setIfInBounds l (.loop { vrec with state := .busy })) (⟨b, 0, none⟩ : Addr) fun t23 =>
          PIf (decide (((t21.len : Nat) : Int) ≥ t23)) (
            kj (some 0) (h13.setIfInBounds l (.loop { vrec with state := .busy }))) (
            LoadL (h13.setIfInBounds l (.loop { vrec with state := .busy })) (⟨b1, 0, none⟩ : Addr) fun t25 =>
            LoadS (h13.setIfInBounds l (.loop { vrec with state := .busy })) (⟨b2, 0, none⟩ : Addr) fun t26_0 =>
            LoadS (h13.setIfInBounds l (.loop { vrec with state := .busy })) ((⟨b2, 0, none⟩ : Addr).add 1) fun t26_1 =>
            LoadB (h13.setIfInBounds l (.loop { vrec with state := .busy })) ((⟨b2, 0, none⟩ : Addr).add 2) fun t26_2 =>
            New (h13.setIfInBounds l (.loop { vrec with state := .busy })) (.cells #[.string t26_0, .string t26_1, .bool t26_2] t_api_Pair) fun b3 h14 =>
            RunK A P (Builtin.append_ #[t_sl_api_Pair, t_sl_api_Pair] t_sl_api_Pair #[.slice t25.p t25.len t25.cap, .slice (some (⟨b3, 0, none⟩ : Addr)) 1 1]) h14 fun v5 h15 => ∃ t28 : Sl, v5 = .slice t28.p t28.len t28.cap ∧ (
            Store h15 (⟨b1, 0, none⟩ : Addr) (.slice t28.p t28.len t28.cap) fun h16 =>
            kn h16)))) h7 (fun h17 =>
        LoadL h17 (⟨b1, 0, none⟩ : Addr) fun t29 =>
        LoadI .i64 h17 (⟨b, 0, none⟩ : Addr) fun t31 =>
        Chk ((0 : Int) ≤ (if ((if (((t18.len : Nat) : Int) : Int) < t31 then ((t18.len : Nat) : Int) else t31) : Int) > 0 then (if (((t18.len : Nat) : Int) : Int) < t31 then ((t18.len : Nat) : Int) else t31) else 0) ∧ (if ((if (((t18.len : Nat) : Int) : Int) < t31 then ((t18.len : Nat) : Int) else t31) : Int) > 0 then (if (((t18.len : Nat) : Int) : Int) < t31 then ((t18.len : Nat) : Int) else t31) else 0) ≤ ((t18.cap : Nat) : Int)) <|
        HCalls A P f_wherryref05_Same #[.slice t29.p t29.len t29.cap, .slice (slOff t18.p t18.cap 0 3) (((if ((if (((t18.len : Nat) : Int) : Int) < t31 then ((t18.len : Nat) : Int) else t31) : Int) > 0 then (if (((t18.len : Nat) : Int) : Int) < t31 then ((t18.len : Nat) : Int) else t31) else 0).toNat) - 0) (t18.cap - 0)] h17 fun v6 h19 => ∃ t37 : Bool, v6 = .bool t37 ∧ (
        PIf t37 (
          HCalls A P f_slices_Collect_of_api_Pair #[t16] h19 fun v7 h20 => ∃ t40 : Sl, v7 = .slice t40.p t40.len t40.cap ∧ (
          HCalls A P f_wherryref05_Same #[.slice t40.p t40.len t40.cap, .slice t18.p t18.len t18.cap] h20 fun v8 h21 => ∃ t42 : Bool, v8 = .bool t42 ∧ (
          h21[h7.size]? = some (.deferred (some [])) ∧ (
          R (.bool t42) (h21.setIfInBounds h7.size (.deferred none)))))) (
          h19[h7.size]? = some (.deferred (some [])) ∧ (
          R (.bool false) (h19.setIfInBounds h7.size (.deferred none)))))) (fun j h18 =>
      (match j with
 | none => (
          h18[h7.size]? = some (.deferred (some [])) ∧ (
          R (.bool false) (h18.setIfInBounds h7.size (.deferred none))))
 | some i => (match Nat.beq i 0 with
 | true => (
          LoadL h18 (⟨b1, 0, none⟩ : Addr) fun t29_1 =>
          LoadI .i64 h18 (⟨b, 0, none⟩ : Addr) fun t31_1 =>
          Chk ((0 : Int) ≤ (if ((if (((t18.len : Nat) : Int) : Int) < t31_1 then ((t18.len : Nat) : Int) else t31_1) : Int) > 0 then (if (((t18.len : Nat) : Int) : Int) < t31_1 then ((t18.len : Nat) : Int) else t31_1) else 0) ∧ (if ((if (((t18.len : Nat) : Int) : Int) < t31_1 then ((t18.len : Nat) : Int) else t31_1) : Int) > 0 then (if (((t18.len : Nat) : Int) : Int) < t31_1 then ((t18.len : Nat) : Int) else t31_1) else 0) ≤ ((t18.cap : Nat) : Int)) <|
          HCalls A P f_wherryref05_Same #[.slice t29_1.p t29_1.len t29_1.cap, .slice (slOff t18.p t18.cap 0 3) (((if ((if (((t18.len : Nat) : Int) : Int) < t31_1 then ((t18.len : Nat) : Int) else t31_1) : Int) > 0 then (if (((t18.len : Nat) : Int) : Int) < t31_1 then ((t18.len : Nat) : Int) else t31_1) else 0).toNat) - 0) (t18.cap - 0)] h18 fun v9 h22 => ∃ t37_1 : Bool, v9 = .bool t37_1 ∧ (
          PIf t37_1 (
            HCalls A P f_slices_Collect_of_api_Pair #[t16] h22 fun v10 h23 => ∃ t40_1 : Sl, v10 = .slice t40_1.p t40_1.len t40_1.cap ∧ (
            HCalls A P f_wherryref05_Same #[.slice t40_1.p t40_1.len t40_1.cap, .slice t18.p t18.len t18.cap] h23 fun v11 h24 => ∃ t42_1 : Bool, v11 = .bool t42_1 ∧ (
            h24[h7.size]? = some (.deferred (some [])) ∧ (
            R (.bool t42_1) (h24.setIfInBounds h7.size (.deferred none)))))) (
            h22[h7.size]? = some (.deferred (some [])) ∧ (
            R (.bool false) (h22.setIfInBounds h7.size (.deferred none))))))
 | false => False)))))))))

def a_wherrylaw08_MergeStops : Ann := .seq .none (.seq (.seq .none (.cond (.seq .none .none) .none)) (.seq .none (.seq .none (.seq .none (.seq .none (.seq (.seq .none (.block (.range [.agg [.str, .str, .bool]] .none (.block (.seq (.seq .none (.cond .none .none)) .none))))) (.seq .none .none)))))))

theorem e_wherrylaw08_MergeStops (A : Amb) (lists : Sl) (most : Int) (h : Heap) (R : Value → Heap → Prop) : F_wherrylaw08_MergeStops A lists most h R = semFun A P f_wherrylaw08_MergeStops a_wherrylaw08_MergeStops [.slice lists.p lists.len lists.cap, .int .i64 most] h R := by kernel_rfl
theorem ok_wherrylaw08_MergeStops {A : Amb} {lists : Sl} {most : Int} {h : Heap} {R : Value → Heap → Prop} (H : F_wherrylaw08_MergeStops A lists most h R) : HCalls A P f_wherrylaw08_MergeStops #[.slice lists.p lists.len lists.cap, .int .i64 most] h R :=
  semFun_sound mixed (e_wherrylaw08_MergeStops A lists most h R ▸ H)

/-- wherry/wherrylaw08.MergeNested -/
def F_wherrylaw08_MergeNested (A : Amb) (lists : Sl) (cut : Int) (h : Heap) (R : Value → Heap → Prop) : Prop :=
  HCalls A P f_wherrylaw08_awake #[] h fun v h1 => ∃ t9 : Bool, v = .bool t9 ∧ (
  PIf (!t9) (
    R (.bool false) h1) (
    HCalls A P f_wherrylaw08_ordered #[.slice lists.p lists.len lists.cap] h1 fun v1 h2 => ∃ t12 : Sl, v1 = .slice t12.p t12.len t12.cap ∧ (
    Chk ((IntKind.wrap .i64 (((t12.len : Nat) : Int) + (1 : Int))) ≠ 0) <|
    Chk ((IntKind.wrap .i64 (((t12.len : Nat) : Int) + (1 : Int))) ≠ 0) <|
    Chk ((0 : Int) ≤ ((IntKind.wrap .i64 ((IntKind.wrap .i64 ((cut.tmod (IntKind.wrap .i64 (((t12.len : Nat) : Int) + (1 : Int)))) + ((t12.len : Nat) : Int))) + (1 : Int))).tmod (IntKind.wrap .i64 (((t12.len : Nat) : Int) + (1 : Int)))) ∧ ((IntKind.wrap .i64 ((IntKind.wrap .i64 ((cut.tmod (IntKind.wrap .i64 (((t12.len : Nat) : Int) + (1 : Int)))) + ((t12.len : Nat) : Int))) + (1 : Int))).tmod (IntKind.wrap .i64 (((t12.len : Nat) : Int) + (1 : Int)))) ≤ ((t12.cap : Nat) : Int)) <|
    HCalls A P f_wherrylaw08_seqs #[.slice (slOff t12.p t12.cap 0 1) ((((IntKind.wrap .i64 ((IntKind.wrap .i64 ((cut.tmod (IntKind.wrap .i64 (((t12.len : Nat) : Int) + (1 : Int)))) + ((t12.len : Nat) : Int))) + (1 : Int))).tmod (IntKind.wrap .i64 (((t12.len : Nat) : Int) + (1 : Int)))).toNat) - 0) (t12.cap - 0)] h2 fun v2 h3 => ∃ t29 : Sl, v2 = .slice t29.p t29.len t29.cap ∧ (
    HCalls A P f_merge_All #[.slice t29.p t29.len t29.cap] h3 fun v3 h4 => ∃ t30 : Value, v3 = t30 ∧ (
    Chk ((0 : Int) ≤ ((IntKind.wrap .i64 ((IntKind.wrap .i64 ((cut.tmod (IntKind.wrap .i64 (((t12.len : Nat) : Int) + (1 : Int)))) + ((t12.len : Nat) : Int))) + (1 : Int))).tmod (IntKind.wrap .i64 (((t12.len : Nat) : Int) + (1 : Int)))) ∧ ((IntKind.wrap .i64 ((IntKind.wrap .i64 ((cut.tmod (IntKind.wrap .i64 (((t12.len : Nat) : Int) + (1 : Int)))) + ((t12.len : Nat) : Int))) + (1 : Int))).tmod (IntKind.wrap .i64 (((t12.len : Nat) : Int) + (1 : Int)))) ≤ ((t12.len : Nat) : Int)) <|
    HCalls A P f_wherrylaw08_seqs #[.slice (slOff t12.p t12.cap (((IntKind.wrap .i64 ((IntKind.wrap .i64 ((cut.tmod (IntKind.wrap .i64 (((t12.len : Nat) : Int) + (1 : Int)))) + ((t12.len : Nat) : Int))) + (1 : Int))).tmod (IntKind.wrap .i64 (((t12.len : Nat) : Int) + (1 : Int)))).toNat) 1) (t12.len - (((IntKind.wrap .i64 ((IntKind.wrap .i64 ((cut.tmod (IntKind.wrap .i64 (((t12.len : Nat) : Int) + (1 : Int)))) + ((t12.len : Nat) : Int))) + (1 : Int))).tmod (IntKind.wrap .i64 (((t12.len : Nat) : Int) + (1 : Int)))).toNat)) (t12.cap - (((IntKind.wrap .i64 ((IntKind.wrap .i64 ((cut.tmod (IntKind.wrap .i64 (((t12.len : Nat) : Int) + (1 : Int)))) + ((t12.len : Nat) : Int))) + (1 : Int))).tmod (IntKind.wrap .i64 (((t12.len : Nat) : Int) + (1 : Int)))).toNat))] h4 fun v4 h5 => ∃ t34 : Sl, v4 = .slice t34.p t34.len t34.cap ∧ (
    HCalls A P f_merge_All #[.slice t34.p t34.len t34.cap] h5 fun v5 h6 => ∃ t35 : Value, v5 = t35 ∧ (
    OneK (oneB t30) <|
    OneK (oneB t35) <|
    New h6 (.cells #[t30, t35] t_iter_Seq_wherry_api_Pair) fun b h7 =>
    HCalls A P f_merge_All #[.slice (some (⟨b, 0, none⟩ : Addr)) 2 2] h7 fun v6 h8 => ∃ t39 : Value, v6 = t39 ∧ (
    HCalls A P f_slices_Collect_of_api_Pair #[t39] h8 fun v7 h9 => ∃ t40 : Sl, v7 = .slice t40.p t40.len t40.cap ∧ (
    HCalls A P f_wherrylaw08_seqs #[.slice t12.p t12.len t12.cap] h9 fun v8 h10 => ∃ t42 : Sl, v8 = .slice t42.p t42.len t42.cap ∧ (
    HCalls A P f_merge_All #[.slice t42.p t42.len t42.cap] h10 fun v9 h11 => ∃ t43 : Value, v9 = t43 ∧ (
    HCalls A P f_slices_Collect_of_api_Pair #[t43] h11 fun v10 h12 => ∃ t44 : Sl, v10 = .slice t44.p t44.len t44.cap ∧ (
    HCalls A P f_wherryref05_Same #[.slice t40.p t40.len t40.cap, .slice t44.p t44.len t44.cap] h12 fun v11 h13 => ∃ t45 : Bool, v11 = .bool t45 ∧ (
    R (.bool t45) h13)))))))))))))

def a_wherrylaw08_MergeNested : Ann := .seq .none (.seq (.seq .none (.cond (.seq .none .none) .none)) (.seq .none (.seq .none (.seq .none (.seq .none .none)))))

theorem e_wherrylaw08_MergeNested (A : Amb) (lists : Sl) (cut : Int) (h : Heap) (R : Value → Heap → Prop) : F_wherrylaw08_MergeNested A lists cut h R = semFun A P f_wherrylaw08_MergeNested a_wherrylaw08_MergeNested [.slice lists.p lists.len lists.cap, .int .i64 cut] h R := by kernel_rfl
theorem ok_wherrylaw08_MergeNested {A : Amb} {lists : Sl} {cut : Int} {h : Heap} {R : Value → Heap → Prop} (H : F_wherrylaw08_MergeNested A lists cut h R) : HCalls A P f_wherrylaw08_MergeNested #[.slice lists.p lists.len lists.cap, .int .i64 cut] h R :=
  semFun_sound mixed (e_wherrylaw08_MergeNested A lists cut h R ▸ H)

/-- wherry/wherrylaw08.MergeKeys -/
def F_wherrylaw08_MergeKeys (A : Amb) (lists : Sl) (h : Heap) (R : Value → Heap → Prop) : Prop :=
  New h (.cells #[.bool false] t_bool) fun b h1 =>
  HCalls A P f_wherrylaw08_awake #[] h1 fun v h2 => ∃ t11 : Bool, v = .bool t11 ∧ (
  PIf (!t11) (
    Store h2 (⟨b, 0, none⟩ : Addr) (.bool false) fun h3 =>
    LoadB h3 (⟨b, 0, none⟩ : Addr) fun res_0 =>
    R (.bool res_0) h3) (
    HCalls A P f_wherrylaw08_ordered #[.slice lists.p lists.len lists.cap] h2 fun v1 h4 => ∃ t14 : Sl, v1 = .slice t14.p t14.len t14.cap ∧ (
    New h4 (.cells #[.slice none 0 0] t_sl_sl_api_Pair) fun b1 h5 =>
    Store h5 (⟨b1, 0, none⟩ : Addr) (.slice t14.p t14.len t14.cap) fun h6 =>
    New h6 (.cells #[.string (⟨#[]⟩ : ByteArray)] t_string) fun b2 h7 =>
    Store h7 (⟨b2, 0, none⟩ : Addr) (.string (⟨#[]⟩ : ByteArray)) fun h8 =>
    LoadL h8 (⟨b1, 0, none⟩ : Addr) fun t15 =>
    HCalls A P f_wherrylaw08_seqs #[.slice t15.p t15.len t15.cap] h8 fun v2 h9 => ∃ t16 : Sl, v2 = .slice t16.p t16.len t16.cap ∧ (
    HCalls A P f_merge_All #[.slice t16.p t16.len t16.cap] h9 fun v3 h10 => ∃ t17 : Value, v3 = t17 ∧ (
    RangeK A P t17 [.agg [.str, .str, .bool]] (fun (args : (ByteArray × ByteArray × Bool × Unit) × Unit) l h11 kn kj =>
        New h11 (.cells #[.string (⟨#[]⟩ : ByteArray), .string (⟨#[]⟩ : ByteArray), .bool false] t_api_Pair) fun b3 h13 =>
        Store h13 (⟨b3, 0, none⟩ : Addr) (.string args.1.1) fun h14 =>
        Store h14 ((⟨b3, 0, none⟩ : Addr).add 1) (.string args.1.2.1) fun h15 =>
        Store h15 ((⟨b3, 0, none⟩ : Addr).add 2) (.bool args.1.2.2.1) fun h16 =>
        ∃ vrec : Go.Loop, h16[l]? = some (.loop vrec) ∧ vrec.state = .ready ∧ (
          LoadS (h16.setIfInBounds l (.loop { vrec with state := .busy })) (⟨b3, 0, none⟩ : Addr) fun t20 =>
          LoadS (h16.setIfInBounds l (.loop { vrec with state := .busy })) (⟨b2, 0, none⟩ : Addr) fun t21 =>
          PIf (sLt t20 t21 || sEq t20 t21) (
            Store (h16.setIfInBounds l (.loop { vrec with state := .busy })) (⟨b, 0, none⟩ : Addr) (.bool false) fun h17 =>
            kj none h17) (
            LoadS (h16.setIfInBounds l (.loop { vrec with state := .busy })) (⟨b3, 0, none⟩ : Addr) fun t24 =>
            Store (h16.setIfInBounds l (.loop { vrec with state := .busy })) (⟨b2, 0, none⟩ : Addr) (.string t24) fun h18 =>
            LoadL h18 (⟨b1, 0, none⟩ : Addr) fun t25 =>
            Loop (fun K (s : Bool × Int × Unit) h19 =>
              PIf (decide (s.2.1 < ((t25.len : Nat) : Int))) (
                Idx t25.p t25.len s.2.1 fun a =>
                LoadL h19 (a.add (s.2.1.toNat * 1)) fun t30 =>
                Loop (fun K1 (s1 : Bool × Int × Unit) h20 =>
                  PIf (decide (s1.2.1 < ((t30.len : Nat) : Int))) (
                    Join (fun (s2 : Bool × Unit) h21 =>
                        K1 (s2.1, (IntKind.wrap .i64 (s1.2.1 + (1 : Int))), ()) h21) fun K2 =>
                      Idx t30.p t30.len s1.2.1 fun a1 =>
                      LoadS h20 (a1.add (s1.2.1.toNat * 3)) fun t36_0 =>
                      LoadS h20 ((a1.add (s1.2.1.toNat * 3)).add 1) fun t36_1 =>
                      LoadB h20 ((a1.add (s1.2.1.toNat * 3)).add 2) fun t36_2 =>
                      New h20 (.cells #[.string (⟨#[]⟩ : ByteArray), .string (⟨#[]⟩ : ByteArray), .bool false] t_api_Pair) fun b4 h22 =>
                      Store h22 (⟨b4, 0, none⟩ : Addr) (.string t36_0) fun h23 =>
                      Store h23 ((⟨b4, 0, none⟩ : Addr).add 1) (.string t36_1) fun h24 =>
                      Store h24 ((⟨b4, 0, none⟩ : Addr).add 2) (.bool t36_2) fun h25 =>
                      Join (fun (r : Bool × Unit) h26 =>
                          PIf r.1 (
                            LoadS h26 (⟨b4, 0, none⟩ : Addr) fun t46_0 =>
                            LoadS h26 ((⟨b4, 0, none⟩ : Addr).add 1) fun t46_1 =>
                            LoadB h26 ((⟨b4, 0, none⟩ : Addr).add 2) fun t46_2 =>
                            LoadS h26 (⟨b3, 0, none⟩ : Addr) fun t47_0 =>
                            LoadS h26 ((⟨b3, 0, none⟩ : Addr).add 1) fun t47_1 =>
                            LoadB h26 ((⟨b3, 0, none⟩ : Addr).add 2) fun t47_2 =>
                            RunK A P (do eqGuard .neq t_api_Pair (.tmp 46) (.tmp 47) (.agg #[.string t46_0, .string t46_1, .bool t46_2]) (.agg #[.string t47_0, .string t47_1, .bool t47_2]); binOp .neq t_api_Pair (.agg #[.string t46_0, .string t46_1, .bool t46_2]) (.agg #[.string t47_0, .string t47_1, .bool t47_2])) h26 fun v4 h27 => ∃ t48 : Bool, v4 = .bool t48 ∧ (
                            PIf t48 (
                              Store h27 (⟨b, 0, none⟩ : Addr) (.bool false) fun h28 =>
                              kj none h28) (
                              K2 (true, ()) h27))) (
                            K2 (s1.1, ()) h26)) fun K3 =>
                        PIf (!s1.1) (
                          LoadS h25 (⟨b4, 0, none⟩ : Addr) fun t41 =>
                          LoadS h25 (⟨b3, 0, none⟩ : Addr) fun t43 =>
                          K3 ((sEq t41 t43), ()) h25) (
                          K3 (false, ()) h25)) (
                    K (s1.1, (IntKind.wrap .i64 (s.2.1 + (1 : Int))), ()) h20)) (s.1, 0, ()) h19) (
                PIf (!s.1) (
                  Store h19 (⟨b, 0, none⟩ : Addr) (.bool false) fun h29 =>
                  kj none h29) (
                  kn h19))) (false, 0, ()) h18))) h10 (fun h30 =>
        LoadL h30 (⟨b1, 0, none⟩ : Addr) fun t53 =>
        HCalls A P f_wherrylaw08_seqs #[.slice t53.p t53.len t53.cap] h30 fun v5 h32 => ∃ t54 : Sl, v5 = .slice t54.p t54.len t54.cap ∧ (
        HCalls A P f_merge_All #[.slice t54.p t54.len t54.cap] h32 fun v6 h33 => ∃ t55 : Value, v6 = t55 ∧ (
        HCalls A P f_merge_Live #[t55] h33 fun v7 h34 => ∃ t56 : Value, v7 = t56 ∧ (
        HCalls A P f_slices_Collect_of_api_Pair #[t56] h34 fun v8 h35 => ∃ t57 : Sl, v8 = .slice t57.p t57.len t57.cap ∧ (
        LoadL h35 (⟨b1, 0, none⟩ : Addr) fun t58 =>
        (hget h34 (⟨b1, 0, none⟩ : Addr) = some (.slice t58.p t58.len t58.cap)) ∧
        (hget h33 (⟨b1, 0, none⟩ : Addr) = some (.slice t58.p t58.len t58.cap)) ∧
        (hget h32 (⟨b1, 0, none⟩ : Addr) = some (.slice t58.p t58.len t58.cap)) ∧
        (hget h30 (⟨b1, 0, none⟩ : Addr) = some (.slice t58.p t58.len t58.cap)) ∧
        HCalls A P f_wherryref08_All #[.slice t58.p t58.len t58.cap] h35 fun v9 h36 => ∃ t59 : Sl, v9 = .slice t59.p t59.len t59.cap ∧ (
        HCalls A P f_wherryref08_Live #[.slice t59.p t59.len t59.cap] h36 fun v10 h37 => ∃ t60 : Sl, v10 = .slice t60.p t60.len t60.cap ∧ (
        HCalls A P f_wherryref05_Same #[.slice t57.p t57.len t57.cap, .slice t60.p t60.len t60.cap] h37 fun v11 h38 => ∃ t61 : Bool, v11 = .bool t61 ∧ (
        Store h38 (⟨b, 0, none⟩ : Addr) (.bool t61) fun h39 =>
        h39[h10.size]? = some (.deferred (some [])) ∧ (
        LoadB (h39.setIfInBounds h10.size (.deferred none)) (⟨b, 0, none⟩ : Addr) fun res_0_1 =>
        R (.bool res_0_1) (h39.setIfInBounds h10.size (.deferred none))))))))))) (fun j h31 =>
      (match j with
 | none => (
          h31[h10.size]? = some (.deferred (some [])) ∧ (
          LoadB (h31.setIfInBounds h10.size (.deferred none)) (⟨b, 0, none⟩ : Addr) fun res_0_2 =>
          R (.bool res_0_2) (h31.setIfInBounds h10.size (.deferred none))))
 | some i => (match Nat.beq i 0 with
 | true => (
          LoadL h31 (⟨b1, 0, none⟩ : Addr) fun t53_1 =>
          HCalls A P f_wherrylaw08_seqs #[.slice t53_1.p t53_1.len t53_1.cap] h31 fun v12 h40 => ∃ t54_1 : Sl, v12 = .slice t54_1.p t54_1.len t54_1.cap ∧ (
          HCalls A P f_merge_All #[.slice t54_1.p t54_1.len t54_1.cap] h40 fun v13 h41 => ∃ t55_1 : Value, v13 = t55_1 ∧ (
          HCalls A P f_merge_Live #[t55_1] h41 fun v14 h42 => ∃ t56_1 : Value, v14 = t56_1 ∧ (
          HCalls A P f_slices_Collect_of_api_Pair #[t56_1] h42 fun v15 h43 => ∃ t57_1 : Sl, v15 = .slice t57_1.p t57_1.len t57_1.cap ∧ (
          LoadL h43 (⟨b1, 0, none⟩ : Addr) fun t58_1 =>
          (hget h42 (⟨b1, 0, none⟩ : Addr) = some (.slice t58_1.p t58_1.len t58_1.cap)) ∧
          (hget h41 (⟨b1, 0, none⟩ : Addr) = some (.slice t58_1.p t58_1.len t58_1.cap)) ∧
          (hget h40 (⟨b1, 0, none⟩ : Addr) = some (.slice t58_1.p t58_1.len t58_1.cap)) ∧
          (hget h31 (⟨b1, 0, none⟩ : Addr) = some (.slice t58_1.p t58_1.len t58_1.cap)) ∧
          HCalls A P f_wherryref08_All #[.slice t58_1.p t58_1.len t58_1.cap] h43 fun v16 h44 => ∃ t59_1 : Sl, v16 = .slice t59_1.p t59_1.len t59_1.cap ∧ (
          HCalls A P f_wherryref08_Live #[.slice t59_1.p t59_1.len t59_1.cap] h44 fun v17 h45 => ∃ t60_1 : Sl, v17 = .slice t60_1.p t60_1.len t60_1.cap ∧ (
          HCalls A P f_wherryref05_Same #[.slice t57_1.p t57_1.len t57_1.cap, .slice t60_1.p t60_1.len t60_1.cap] h45 fun v18 h46 => ∃ t61_1 : Bool, v18 = .bool t61_1 ∧ (
          Store h46 (⟨b, 0, none⟩ : Addr) (.bool t61_1) fun h47 =>
          h47[h10.size]? = some (.deferred (some [])) ∧ (
          LoadB (h47.setIfInBounds h10.size (.deferred none)) (⟨b, 0, none⟩ : Addr) fun res_0_3 =>
          R (.bool res_0_3) (h47.setIfInBounds h10.size (.deferred none)))))))))))
 | false => False))))))))

def a_wherrylaw08_MergeKeys : Ann := .seq .none (.seq (.seq .none (.cond (.seq .none .none) .none)) (.seq .none (.seq .none (.seq (.seq .none (.block (.range [.agg [.str, .str, .bool]] .none (.block (.seq (.seq .none (.cond (.seq .none .none) .none)) (.seq .none (.seq .none (.seq (.seq .none (.block (.loop [(6, .one .bool), (27, .one (.int .i64))] [2, 5, 25, 26] (.seq .none (.seq (.cond .none .none) (.seq (.block (.seq .none (.seq .none (.block (.loop [(6, .one .bool), (33, .one (.int .i64))] [2, 5, 25, 26, 27, 31, 32] (.seq .none (.seq (.cond .none .none) (.seq (.blockJ [(6, .one .bool)] [2, 5, 25, 26, 27, 31, 32, 33] (.seq .none (.seq (.reg [(45, .one .bool)] [2, 5, 6, 10, 25, 26, 27, 31, 32, 33]) (.cond (.seq (.seq .none (.cond (.seq .none .none) .none)) .none) .none)))) .none)))))))) .none)))))) (.seq .none (.cond (.seq .none .none) .none)))))))))) (.seq .none .none)))))

theorem e_wherrylaw08_MergeKeys (A : Amb) (lists : Sl) (h : Heap) (R : Value → Heap → Prop) : F_wherrylaw08_MergeKeys A lists h R = semFun A P f_wherrylaw08_MergeKeys a_wherrylaw08_MergeKeys [.slice lists.p lists.len lists.cap] h R := by kernel_rfl
theorem ok_wherrylaw08_MergeKeys {A : Amb} {lists : Sl} {h : Heap} {R : Value → Heap → Prop} (H : F_wherrylaw08_MergeKeys A lists h R) : HCalls A P f_wherrylaw08_MergeKeys #[.slice lists.p lists.len lists.cap] h R :=
  semFun_sound mixed (e_wherrylaw08_MergeKeys A lists h R ▸ H)

/-- wherry/wherrylaw05.MemStops -/
def F_wherrylaw05_MemStops (A : Amb) (puts : Sl) (key : ByteArray) (most : Int) (h : Heap) (R : Value → Heap → Prop) : Prop :=
  New h (.cells #[.int .i64 most] t_int) fun b h1 =>
  HCalls A P f_wherrylaw05_awake #[] h1 fun v h2 => ∃ t13 : Bool, v = .bool t13 ∧ (
  PIf (!t13) (
    R (.bool false) h2) (
    HCalls A P f_mem_New #[] h2 fun v1 h3 => ∃ t15 : Option Addr, v1 = .pointer t15 ∧ (
    Loop (fun K (s : Int × Unit) h4 =>
      PIf (decide (s.1 < ((puts.len : Nat) : Int))) (
        Idx puts.p puts.len s.1 fun a =>
        LoadS h4 (a.add (s.1.toNat * 3)) fun t21_0 =>
        LoadS h4 ((a.add (s.1.toNat * 3)).add 1) fun t21_1 =>
        LoadB h4 ((a.add (s.1.toNat * 3)).add 2) fun t21_2 =>
        New h4 (.cells #[.string (⟨#[]⟩ : ByteArray), .string (⟨#[]⟩ : ByteArray), .bool false] t_api_Pair) fun b1 h5 =>
        Store h5 (⟨b1, 0, none⟩ : Addr) (.string t21_0) fun h6 =>
        Store h6 ((⟨b1, 0, none⟩ : Addr).add 1) (.string t21_1) fun h7 =>
        Store h7 ((⟨b1, 0, none⟩ : Addr).add 2) (.bool t21_2) fun h8 =>
        LoadS h8 (⟨b1, 0, none⟩ : Addr) fun t23_0 =>
        LoadS h8 ((⟨b1, 0, none⟩ : Addr).add 1) fun t23_1 =>
        LoadB h8 ((⟨b1, 0, none⟩ : Addr).add 2) fun t23_2 =>
        HCalls A P f_mem_Table_Put #[.pointer t15, .agg #[.string t23_0, .string t23_1, .bool t23_2]] h8 fun v2 h9 => ∃ t24 : Int, v2 = .int .i64 t24 ∧ (
        K ((IntKind.wrap .i64 (s.1 + (1 : Int))), ()) h9)) (
        New h4 (.cells #[.slice none 0 0] t_sl_api_Pair) fun b2 h10 =>
        HCalls A P f_mem_Table_From #[.pointer t15, .string key] h10 fun v3 h11 => ∃ t28 : Value, v3 = t28 ∧ (
        RangeK A P t28 [.agg [.str, .str, .bool]] (fun (args : (ByteArray × ByteArray × Bool × Unit) × Unit) l h12 kn kj =>
            New h12 (.cells #[.string (⟨#[]⟩ : ByteArray), .string (⟨#[]⟩ : ByteArray), .bool false] t_api_Pair) fun b3 h14 =>
            Store h14 (⟨b3, 0, none⟩ : Addr) (.string args.1.1) fun h15 =>
            Store h15 ((⟨b3, 0, none⟩ : Addr).add 1) (.string args.1.2.1) fun h16 =>
            Store h16 ((⟨b3, 0, none⟩ : Addr).add 2) (.bool args.1.2.2.1) fun h17 =>
            ∃ vrec : Go.Loop, h17[l]? = some (.loop vrec) ∧ vrec.state = .ready ∧ (
              LoadL (h17.setIfInBounds l (.loop { vrec with state := .busy })) (⟨b2, 0, none⟩ : Addr) fun t30 =>
              LoadI .i64 (h17.setIfInBounds l (.loop { vrec with state := .busy })) (⟨b, 0, none⟩ : Addr) fun t32 =>
              PIf (decide (((t30.len : Nat) : Int) ≥ t32)) (
                kj (some 2) (h17.setIfInBounds l (.loop { vrec with state := .busy }))) (
                LoadL (h17.setIfInBounds l (.loop { vrec with state := .busy })) (⟨b2, 0, none⟩ : Addr) fun t34 =>
                LoadS (h17.setIfInBounds l (.loop { vrec with state := .busy })) (⟨b3, 0, none⟩ : Addr) fun t35_0 =>
                LoadS (h17.setIfInBounds l (.loop { vrec with state := .busy })) ((⟨b3, 0, none⟩ : Addr).add 1) fun t35_1 =>
                LoadB (h17.setIfInBounds l (.loop { vrec with state := .busy })) ((⟨b3, 0, none⟩ : Addr).add 2) fun t35_2 =>
                New (h17.setIfInBounds l (.loop { vrec with state := .busy })) (.cells #[.string t35_0, .string t35_1, .bool t35_2] t_api_Pair) fun b4 h18 =>
                RunK A P (Builtin.append_ #[t_sl_api_Pair, t_sl_api_Pair] t_sl_api_Pair #[.slice t34.p t34.len t34.cap, .slice (some (⟨b4, 0, none⟩ : Addr)) 1 1]) h18 fun v4 h19 => ∃ t37 : Sl, v4 = .slice t37.p t37.len t37.cap ∧ (
                Store h19 (⟨b2, 0, none⟩ : Addr) (.slice t37.p t37.len t37.cap) fun h20 =>
                kn h20)))) h11 (fun h21 =>
            HCalls A P f_mem_Table_From #[.pointer t15, .string key] h21 fun v5 h23 => ∃ t40 : Value, v5 = t40 ∧ (
            HCalls A P f_slices_Collect_of_api_Pair #[t40] h23 fun v6 h24 => ∃ t41 : Sl, v6 = .slice t41.p t41.len t41.cap ∧ (
            LoadL h24 (⟨b2, 0, none⟩ : Addr) fun t42 =>
            LoadI .i64 h24 (⟨b, 0, none⟩ : Addr) fun t44 =>
            Chk ((0 : Int) ≤ (if ((if (((t41.len : Nat) : Int) : Int) < t44 then ((t41.len : Nat) : Int) else t44) : Int) > 0 then (if (((t41.len : Nat) : Int) : Int) < t44 then ((t41.len : Nat) : Int) else t44) else 0) ∧ (if ((if (((t41.len : Nat) : Int) : Int) < t44 then ((t41.len : Nat) : Int) else t44) : Int) > 0 then (if (((t41.len : Nat) : Int) : Int) < t44 then ((t41.len : Nat) : Int) else t44) else 0) ≤ ((t41.cap : Nat) : Int)) <|
            HCalls A P f_wherryref05_Same #[.slice t42.p t42.len t42.cap, .slice (slOff t41.p t41.cap 0 3) (((if ((if (((t41.len : Nat) : Int) : Int) < t44 then ((t41.len : Nat) : Int) else t44) : Int) > 0 then (if (((t41.len : Nat) : Int) : Int) < t44 then ((t41.len : Nat) : Int) else t44) else 0).toNat) - 0) (t41.cap - 0)] h24 fun v7 h25 => ∃ t50 : Bool, v7 = .bool t50 ∧ (
            PIf t50 (
              PIf (((t41.len : Nat) : Int) == (0 : Int)) (
                h25[h11.size]? = some (.deferred (some [])) ∧ (
                R (.bool true) (h25.setIfInBounds h11.size (.deferred none)))) (
                Idx t41.p t41.len 0 fun a1 =>
                LoadS h25 (a1.add ((0 : Int).toNat * 3)) fun t59 =>
                h25[h11.size]? = some (.deferred (some [])) ∧ (
                R (.bool (!sLt t59 key)) (h25.setIfInBounds h11.size (.deferred none))))) (
              h25[h11.size]? = some (.deferred (some [])) ∧ (
              R (.bool false) (h25.setIfInBounds h11.size (.deferred none)))))))) (fun j h22 =>
          (match j with
 | none => (
              h22[h11.size]? = some (.deferred (some [])) ∧ (
              R (.bool false) (h22.setIfInBounds h11.size (.deferred none))))
 | some i => (match Nat.beq i 2 with
 | true => (
              HCalls A P f_mem_Table_From #[.pointer t15, .string key] h22 fun v8 h26 => ∃ t40_1 : Value, v8 = t40_1 ∧ (
              HCalls A P f_slices_Collect_of_api_Pair #[t40_1] h26 fun v9 h27 => ∃ t41_1 : Sl, v9 = .slice t41_1.p t41_1.len t41_1.cap ∧ (
              LoadL h27 (⟨b2, 0, none⟩ : Addr) fun t42_1 =>
              LoadI .i64 h27 (⟨b, 0, none⟩ : Addr) fun t44_1 =>
              Chk ((0 : Int) ≤ (if ((if (((t41_1.len : Nat) : Int) : Int) < t44_1 then ((t41_1.len : Nat) : Int) else t44_1) : Int) > 0 then (if (((t41_1.len : Nat) : Int) : Int) < t44_1 then ((t41_1.len : Nat) : Int) else t44_1) else 0) ∧ (if ((if (((t41_1.len : Nat) : Int) : Int) < t44_1 then ((t41_1.len : Nat) : Int) else t44_1) : Int) > 0 then (if (((t41_1.len : Nat) : Int) : Int) < t44_1 then ((t41_1.len : Nat) : Int) else t44_1) else 0) ≤ ((t41_1.cap : Nat) : Int)) <|
              HCalls A P f_wherryref05_Same #[.slice t42_1.p t42_1.len t42_1.cap, .slice (slOff t41_1.p t41_1.cap 0 3) (((if ((if (((t41_1.len : Nat) : Int) : Int) < t44_1 then ((t41_1.len : Nat) : Int) else t44_1) : Int) > 0 then (if (((t41_1.len : Nat) : Int) : Int) < t44_1 then ((t41_1.len : Nat) : Int) else t44_1) else 0).toNat) - 0) (t41_1.cap - 0)] h27 fun v10 h28 => ∃ t50_1 : Bool, v10 = .bool t50_1 ∧ (
              PIf t50_1 (
                PIf (((t41_1.len : Nat) : Int) == (0 : Int)) (
                  h28[h11.size]? = some (.deferred (some [])) ∧ (
                  R (.bool true) (h28.setIfInBounds h11.size (.deferred none)))) (
                  Idx t41_1.p t41_1.len 0 fun a2 =>
                  LoadS h28 (a2.add ((0 : Int).toNat * 3)) fun t59_1 =>
                  h28[h11.size]? = some (.deferred (some [])) ∧ (
                  R (.bool (!sLt t59_1 key)) (h28.setIfInBounds h11.size (.deferred none))))) (
                h28[h11.size]? = some (.deferred (some [])) ∧ (
                R (.bool false) (h28.setIfInBounds h11.size (.deferred none))))))))
 | false => False)))))) (0, ()) h3)))

def a_wherrylaw05_MemStops : Ann := .seq .none (.seq (.seq .none (.cond (.seq .none .none) .none)) (.seq .none (.seq (.seq .none (.block (.loop [(18, .one (.int .i64))] [1, 5, 6, 7, 16, 17] (.seq .none (.seq (.cond .none .none) (.seq (.block (.seq .none .none)) .none)))))) (.seq .none (.seq (.seq .none (.block (.range [.agg [.str, .str, .bool]] .none (.block (.seq (.seq .none (.cond .none .none)) .none))))) (.seq .none (.seq .none .none)))))))

theorem e_wherrylaw05_MemStops (A : Amb) (puts : Sl) (key : ByteArray) (most : Int) (h : Heap) (R : Value → Heap → Prop) : F_wherrylaw05_MemStops A puts key most h R = semFun A P f_wherrylaw05_MemStops a_wherrylaw05_MemStops [.slice puts.p puts.len puts.cap, .string key, .int .i64 most] h R := by kernel_rfl
theorem ok_wherrylaw05_MemStops {A : Amb} {puts : Sl} {key : ByteArray} {most : Int} {h : Heap} {R : Value → Heap → Prop} (H : F_wherrylaw05_MemStops A puts key most h R) : HCalls A P f_wherrylaw05_MemStops #[.slice puts.p puts.len puts.cap, .string key, .int .i64 most] h R :=
  semFun_sound mixed (e_wherrylaw05_MemStops A puts key most h R ▸ H)

/-- wherry/wherrylaw05.MemOrder -/
def F_wherrylaw05_MemOrder (A : Amb) (puts : Sl) (turn : Int) (h : Heap) (R : Value → Heap → Prop) : Prop :=
  HCalls A P f_wherrylaw05_awake #[] h fun v h1 => ∃ t17 : Bool, v = .bool t17 ∧ (
  PIf (!t17) (
    R (.bool false) h1) (
    HCalls A P f_mem_New #[] h1 fun v1 h2 => ∃ t19 : Option Addr, v1 = .pointer t19 ∧ (
    HCalls A P f_mem_New #[] h2 fun v2 h3 => ∃ t20 : Option Addr, v2 = .pointer t20 ∧ (
    New h3 (.map #[] 0) fun b h4 =>
    Loop (fun K (s : Sl × Int × Unit) h5 =>
      PIf (decide (s.2.1 < ((puts.len : Nat) : Int))) (
        Join (fun (s1 : Sl × Unit) h6 =>
            K ((⟨s1.1.p, s1.1.len, s1.1.cap⟩ : Sl), (IntKind.wrap .i64 (s.2.1 + (1 : Int))), ()) h6) fun K1 =>
          Idx puts.p puts.len s.2.1 fun a =>
          LoadS h5 (a.add (s.2.1.toNat * 3)) fun t27_0 =>
          LoadS h5 ((a.add (s.2.1.toNat * 3)).add 1) fun t27_1 =>
          LoadB h5 ((a.add (s.2.1.toNat * 3)).add 2) fun t27_2 =>
          New h5 (.cells #[.string (⟨#[]⟩ : ByteArray), .string (⟨#[]⟩ : ByteArray), .bool false] t_api_Pair) fun b1 h7 =>
          Store h7 (⟨b1, 0, none⟩ : Addr) (.string t27_0) fun h8 =>
          Store h8 ((⟨b1, 0, none⟩ : Addr).add 1) (.string t27_1) fun h9 =>
          Store h9 ((⟨b1, 0, none⟩ : Addr).add 2) (.bool t27_2) fun h10 =>
          LoadS h10 (⟨b1, 0, none⟩ : Addr) fun t30 =>
          RunK A P (Instr.lookup t_map_string_bool (.map (some b)) (.string t30) false) h10 fun v3 h11 => ∃ t31 : Bool, v3 = .bool t31 ∧ (
          PIf (!t31) (
            LoadS h11 (⟨b1, 0, none⟩ : Addr) fun t35 =>
            RunU A P (Instr.mapUpdate t_map_string_bool (.map (some b)) (.string t35) (.bool true)) h11 fun h12 => (
            LoadS h12 (⟨b1, 0, none⟩ : Addr) fun t37_0 =>
            LoadS h12 ((⟨b1, 0, none⟩ : Addr).add 1) fun t37_1 =>
            LoadB h12 ((⟨b1, 0, none⟩ : Addr).add 2) fun t37_2 =>
            New h12 (.cells #[.string t37_0, .string t37_1, .bool t37_2] t_api_Pair) fun b2 h13 =>
            RunK A P (Builtin.append_ #[t_sl_api_Pair, t_sl_api_Pair] t_sl_api_Pair #[.slice s.1.p s.1.len s.1.cap, .slice (some (⟨b2, 0, none⟩ : Addr)) 1 1]) h13 fun v4 h14 => ∃ t39 : Sl, v4 = .slice t39.p t39.len t39.cap ∧ (
            K1 ((⟨t39.p, t39.len, t39.cap⟩ : Sl), ()) h14))) (
            K1 ((⟨s.1.p, s.1.len, s.1.cap⟩ : Sl), ()) h11))) (
        Loop (fun K2 (s2 : Int × Unit) h15 =>
          PIf (decide (s2.1 < ((s.1.len : Nat) : Int))) (
            Idx s.1.p s.1.len s2.1 fun a1 =>
            LoadS h15 (a1.add (s2.1.toNat * 3)) fun t50_0 =>
            LoadS h15 ((a1.add (s2.1.toNat * 3)).add 1) fun t50_1 =>
            LoadB h15 ((a1.add (s2.1.toNat * 3)).add 2) fun t50_2 =>
            HCalls A P f_mem_Table_Put #[.pointer t19, .agg #[.string t50_0, .string t50_1, .bool t50_2]] h15 fun v5 h16 => ∃ t51 : Int, v5 = .int .i64 t51 ∧ (
            Chk (((s.1.len : Nat) : Int) ≠ 0) <|
            Chk (((s.1.len : Nat) : Int) ≠ 0) <|
            Chk (((s.1.len : Nat) : Int) ≠ 0) <|
            Idx s.1.p s.1.len (IntKind.wrap .i64 ((IntKind.wrap .i64 (((s.1.len : Nat) : Int) - (1 : Int))) - ((IntKind.wrap .i64 (((IntKind.wrap .i64 (s2.1 + (turn.tmod ((s.1.len : Nat) : Int)))).tmod ((s.1.len : Nat) : Int)) + ((s.1.len : Nat) : Int))).tmod ((s.1.len : Nat) : Int)))) fun a2 =>
            LoadS h16 (a2.add ((IntKind.wrap .i64 ((IntKind.wrap .i64 (((s.1.len : Nat) : Int) - (1 : Int))) - ((IntKind.wrap .i64 (((IntKind.wrap .i64 (s2.1 + (turn.tmod ((s.1.len : Nat) : Int)))).tmod ((s.1.len : Nat) : Int)) + ((s.1.len : Nat) : Int))).tmod ((s.1.len : Nat) : Int)))).toNat * 3)) fun t75_0 =>
            LoadS h16 ((a2.add ((IntKind.wrap .i64 ((IntKind.wrap .i64 (((s.1.len : Nat) : Int) - (1 : Int))) - ((IntKind.wrap .i64 (((IntKind.wrap .i64 (s2.1 + (turn.tmod ((s.1.len : Nat) : Int)))).tmod ((s.1.len : Nat) : Int)) + ((s.1.len : Nat) : Int))).tmod ((s.1.len : Nat) : Int)))).toNat * 3)).add 1) fun t75_1 =>
            LoadB h16 ((a2.add ((IntKind.wrap .i64 ((IntKind.wrap .i64 (((s.1.len : Nat) : Int) - (1 : Int))) - ((IntKind.wrap .i64 (((IntKind.wrap .i64 (s2.1 + (turn.tmod ((s.1.len : Nat) : Int)))).tmod ((s.1.len : Nat) : Int)) + ((s.1.len : Nat) : Int))).tmod ((s.1.len : Nat) : Int)))).toNat * 3)).add 2) fun t75_2 =>
            HCalls A P f_mem_Table_Put #[.pointer t20, .agg #[.string t75_0, .string t75_1, .bool t75_2]] h16 fun v6 h17 => ∃ t76 : Int, v6 = .int .i64 t76 ∧ (
            K2 ((IntKind.wrap .i64 (s2.1 + (1 : Int))), ()) h17))) (
            HCalls A P f_mem_Table_Len #[.pointer t19] h15 fun v7 h18 => ∃ t80a : Int, ∃ t80b : Int, v7 = .tuple #[.int .i64 t80a, .int .i64 t80b] ∧ (
            HCalls A P f_mem_Table_Len #[.pointer t20] h18 fun v8 h19 => ∃ t85a : Int, ∃ t85b : Int, v8 = .tuple #[.int .i64 t85a, .int .i64 t85b] ∧ (
            PIf (t80a == t85a) (
              PIf (t80b == t85b) (
                HCalls A P f_mem_Table_From #[.pointer t19, .string (⟨#[]⟩ : ByteArray)] h19 fun v9 h20 => ∃ t98 : Value, v9 = t98 ∧ (
                HCalls A P f_slices_Collect_of_api_Pair #[t98] h20 fun v10 h21 => ∃ t99 : Sl, v10 = .slice t99.p t99.len t99.cap ∧ (
                HCalls A P f_mem_Table_From #[.pointer t20, .string (⟨#[]⟩ : ByteArray)] h21 fun v11 h22 => ∃ t101 : Value, v11 = t101 ∧ (
                HCalls A P f_slices_Collect_of_api_Pair #[t101] h22 fun v12 h23 => ∃ t102 : Sl, v12 = .slice t102.p t102.len t102.cap ∧ (
                HCalls A P f_wherryref05_Same #[.slice t99.p t99.len t99.cap, .slice t102.p t102.len t102.cap] h23 fun v13 h24 => ∃ t103 : Bool, v13 = .bool t103 ∧ (
                R (.bool t103) h24)))))) (
                R (.bool false) h19)) (
              R (.bool false) h19))))) (0, ()) h5)) ((⟨none, 0, 0⟩ : Sl), 0, ()) h4))))

def a_wherrylaw05_MemOrder : Ann := .seq .none (.seq (.seq .none (.cond (.seq .none .none) .none)) (.seq .none (.seq .none (.seq .none (.seq (.seq .none (.block (.loop [(8, .one .sl), (24, .one (.int .i64))] [1, 5, 6, 7, 22, 23] (.seq .none (.seq (.cond .none .none) (.seq (.blockJ [(8, .one .sl)] [1, 5, 6, 7, 22, 23, 24] (.seq .none (.seq .none (.cond (.seq .none .none) .none)))) .none)))))) (.seq (.seq .none (.block (.loop [(43, .one (.int .i64))] [1, 5, 6, 8, 42] (.seq .none (.seq (.cond .none .none) (.seq (.block (.seq .none (.seq .none (.seq .none .none)))) .none)))))) (.seq .none (.seq .none (.seq .none .none)))))))))

theorem e_wherrylaw05_MemOrder (A : Amb) (puts : Sl) (turn : Int) (h : Heap) (R : Value → Heap → Prop) : F_wherrylaw05_MemOrder A puts turn h R = semFun A P f_wherrylaw05_MemOrder a_wherrylaw05_MemOrder [.slice puts.p puts.len puts.cap, .int .i64 turn] h R := by kernel_rfl
theorem ok_wherrylaw05_MemOrder {A : Amb} {puts : Sl} {turn : Int} {h : Heap} {R : Value → Heap → Prop} (H : F_wherrylaw05_MemOrder A puts turn h R) : HCalls A P f_wherrylaw05_MemOrder #[.slice puts.p puts.len puts.cap, .int .i64 turn] h R :=
  semFun_sound mixed (e_wherrylaw05_MemOrder A puts turn h R ▸ H)

/-- wherry/wherrylaw05.MemLast -/
def F_wherrylaw05_MemLast (A : Amb) (puts : Sl) (h : Heap) (R : Value → Heap → Prop) : Prop :=
  New h (.cells #[.bool false] t_bool) fun b h1 =>
  HCalls A P f_wherrylaw05_awake #[] h1 fun v h2 => ∃ t12 : Bool, v = .bool t12 ∧ (
  PIf (!t12) (
    Store h2 (⟨b, 0, none⟩ : Addr) (.bool false) fun h3 =>
    LoadB h3 (⟨b, 0, none⟩ : Addr) fun res_0 =>
    R (.bool res_0) h3) (
    HCalls A P f_mem_New #[] h2 fun v1 h4 => ∃ t14 : Option Addr, v1 = .pointer t14 ∧ (
    New h4 (.map #[] 0) fun b1 h5 =>
    New h5 (.cells #[.map none] t_map_string_api_Pair) fun b2 h6 =>
    Store h6 (⟨b2, 0, none⟩ : Addr) (.map (some b1)) fun h7 =>
    Loop (fun K (s : Int × Unit) h8 =>
      PIf (decide (s.1 < ((puts.len : Nat) : Int))) (
        Join (fun (s1 : Unit) h9 =>
            K ((IntKind.wrap .i64 (s.1 + (1 : Int))), ()) h9) fun K1 =>
          Idx puts.p puts.len s.1 fun a =>
          LoadS h8 (a.add (s.1.toNat * 3)) fun t21_0 =>
          LoadS h8 ((a.add (s.1.toNat * 3)).add 1) fun t21_1 =>
          LoadB h8 ((a.add (s.1.toNat * 3)).add 2) fun t21_2 =>
          New h8 (.cells #[.string (⟨#[]⟩ : ByteArray), .string (⟨#[]⟩ : ByteArray), .bool false] t_api_Pair) fun b3 h10 =>
          Store h10 (⟨b3, 0, none⟩ : Addr) (.string t21_0) fun h11 =>
          Store h11 ((⟨b3, 0, none⟩ : Addr).add 1) (.string t21_1) fun h12 =>
          Store h12 ((⟨b3, 0, none⟩ : Addr).add 2) (.bool t21_2) fun h13 =>
          LoadS h13 (⟨b3, 0, none⟩ : Addr) fun t23_0 =>
          LoadS h13 ((⟨b3, 0, none⟩ : Addr).add 1) fun t23_1 =>
          LoadB h13 ((⟨b3, 0, none⟩ : Addr).add 2) fun t23_2 =>
          HCalls A P f_mem_Table_Put #[.pointer t14, .agg #[.string t23_0, .string t23_1, .bool t23_2]] h13 fun v2 h14 => ∃ t24 : Int, v2 = .int .i64 t24 ∧ (
          PIf (t24 == (0 : Int)) (
            LoadM h14 (⟨b2, 0, none⟩ : Addr) fun t26 =>
            LoadS h14 (⟨b3, 0, none⟩ : Addr) fun t28 =>
            LoadS h14 (⟨b3, 0, none⟩ : Addr) fun t29_0 =>
            LoadS h14 ((⟨b3, 0, none⟩ : Addr).add 1) fun t29_1 =>
            LoadB h14 ((⟨b3, 0, none⟩ : Addr).add 2) fun t29_2 =>
            RunU A P (Instr.mapUpdate t_map_string_api_Pair (.map t26) (.string t28) (.agg #[.string t29_0, .string t29_1, .bool t29_2])) h14 fun h15 => (
            K1 () h15)) (
            K1 () h14))) (
        HCalls A P f_mem_Table_Len #[.pointer t14] h8 fun v3 h16 => ∃ t33a : Int, ∃ t33b : Int, v3 = .tuple #[.int .i64 t33a, .int .i64 t33b] ∧ (
        New h16 (.cells #[.string (⟨#[]⟩ : ByteArray)] t_string) fun b4 h17 =>
        Store h17 (⟨b4, 0, none⟩ : Addr) (.string (⟨#[]⟩ : ByteArray)) fun h18 =>
        New h18 (.cells #[.int .i64 0] t_int) fun b5 h19 =>
        Store h19 (⟨b5, 0, none⟩ : Addr) (.int .i64 0) fun h20 =>
        HCalls A P f_mem_Table_From #[.pointer t14, .string (⟨#[]⟩ : ByteArray)] h20 fun v4 h21 => ∃ t37 : Value, v4 = t37 ∧ (
        RangeK A P t37 [.agg [.str, .str, .bool]] (fun (args : (ByteArray × ByteArray × Bool × Unit) × Unit) l h22 kn kj =>
            New h22 (.cells #[.string (⟨#[]⟩ : ByteArray), .string (⟨#[]⟩ : ByteArray), .bool false] t_api_Pair) fun b6 h24 =>
            Store h24 (⟨b6, 0, none⟩ : Addr) (.string args.1.1) fun h25 =>
            Store h25 ((⟨b6, 0, none⟩ : Addr).add 1) (.string args.1.2.1) fun h26 =>
            Store h26 ((⟨b6, 0, none⟩ : Addr).add 2) (.bool args.1.2.2.1) fun h27 =>
            ∃ vrec : Go.Loop, h27[l]? = some (.loop vrec) ∧ vrec.state = .ready ∧ (
              Join (fun (r : Bool × Unit) h28 =>
                  PIf r.1 (
                    Store h28 (⟨b, 0, none⟩ : Addr) (.bool false) fun h29 =>
                    kj none h29) (
                    LoadS h28 (⟨b6, 0, none⟩ : Addr) fun t52 =>
                    Store h28 (⟨b4, 0, none⟩ : Addr) (.string t52) fun h30 =>
                    LoadI .i64 h30 (⟨b5, 0, none⟩ : Addr) fun t53 =>
                    Store h30 (⟨b5, 0, none⟩ : Addr) (.int .i64 (IntKind.wrap .i64 (t53 + (1 : Int)))) fun h31 =>
                    kn h31)) fun K2 =>
                LoadS (h27.setIfInBounds l (.loop { vrec with state := .busy })) (⟨b6, 0, none⟩ : Addr) fun t39_0 =>
                LoadS (h27.setIfInBounds l (.loop { vrec with state := .busy })) ((⟨b6, 0, none⟩ : Addr).add 1) fun t39_1 =>
                LoadB (h27.setIfInBounds l (.loop { vrec with state := .busy })) ((⟨b6, 0, none⟩ : Addr).add 2) fun t39_2 =>
                LoadM (h27.setIfInBounds l (.loop { vrec with state := .busy })) (⟨b2, 0, none⟩ : Addr) fun t40 =>
                LoadS (h27.setIfInBounds l (.loop { vrec with state := .busy })) (⟨b6, 0, none⟩ : Addr) fun t42 =>
                RunK A P (Instr.lookup t_map_string_api_Pair (.map t40) (.string t42) false) (h27.setIfInBounds l (.loop { vrec with state := .busy })) fun v5 h32 => ∃ t43_0 : ByteArray, ∃ t43_1 : ByteArray, ∃ t43_2 : Bool, v5 = .agg #[.string t43_0, .string t43_1, .bool t43_2] ∧ (
                RunK A P (do eqGuard .neq t_api_Pair (.tmp 39) (.tmp 43) (.agg #[.string t39_0, .string t39_1, .bool t39_2]) (.agg #[.string t43_0, .string t43_1, .bool t43_2]); binOp .neq t_api_Pair (.agg #[.string t39_0, .string t39_1, .bool t39_2]) (.agg #[.string t43_0, .string t43_1, .bool t43_2])) h32 fun v6 h33 => ∃ t44 : Bool, v6 = .bool t44 ∧ (
                PIf t44 (
                  K2 (true, ()) h33) (
                  LoadS h33 (⟨b6, 0, none⟩ : Addr) fun t47 =>
                  LoadS h33 (⟨b4, 0, none⟩ : Addr) fun t48 =>
                  K2 ((sLt t47 t48 || sEq t47 t48), ()) h33))))) h21 (fun h34 =>
            LoadM h34 (⟨b2, 0, none⟩ : Addr) fun t56 =>
            RunK A P (Builtin.len_ #[t_map_string_api_Pair] t_int #[.map t56]) h34 fun v7 h36 => ∃ t57 : Int, v7 = .int .i64 t57 ∧ (
            PIf (t33a == t57) (
              LoadI .i64 h36 (⟨b5, 0, none⟩ : Addr) fun t60 =>
              Store h36 (⟨b, 0, none⟩ : Addr) (.bool (t60 == t33a)) fun h37 =>
              h37[h21.size]? = some (.deferred (some [])) ∧ (
              LoadB (h37.setIfInBounds h21.size (.deferred none)) (⟨b, 0, none⟩ : Addr) fun res_0_1 =>
              R (.bool res_0_1) (h37.setIfInBounds h21.size (.deferred none)))) (
              Store h36 (⟨b, 0, none⟩ : Addr) (.bool false) fun h38 =>
              h38[h21.size]? = some (.deferred (some [])) ∧ (
              LoadB (h38.setIfInBounds h21.size (.deferred none)) (⟨b, 0, none⟩ : Addr) fun res_0_2 =>
              R (.bool res_0_2) (h38.setIfInBounds h21.size (.deferred none)))))) (fun j h35 =>
          (match j with
 | none => (
              h35[h21.size]? = some (.deferred (some [])) ∧ (
              LoadB (h35.setIfInBounds h21.size (.deferred none)) (⟨b, 0, none⟩ : Addr) fun res_0_3 =>
              R (.bool res_0_3) (h35.setIfInBounds h21.size (.deferred none))))
 | some i => (match Nat.beq i 2 with
 | true => (
              LoadM h35 (⟨b2, 0, none⟩ : Addr) fun t56_1 =>
              RunK A P (Builtin.len_ #[t_map_string_api_Pair] t_int #[.map t56_1]) h35 fun v8 h39 => ∃ t57_1 : Int, v8 = .int .i64 t57_1 ∧ (
              PIf (t33a == t57_1) (
                LoadI .i64 h39 (⟨b5, 0, none⟩ : Addr) fun t60_1 =>
                Store h39 (⟨b, 0, none⟩ : Addr) (.bool (t60_1 == t33a)) fun h40 =>
                h40[h21.size]? = some (.deferred (some [])) ∧ (
                LoadB (h40.setIfInBounds h21.size (.deferred none)) (⟨b, 0, none⟩ : Addr) fun res_0_4 =>
                R (.bool res_0_4) (h40.setIfInBounds h21.size (.deferred none)))) (
                Store h39 (⟨b, 0, none⟩ : Addr) (.bool false) fun h41 =>
                h41[h21.size]? = some (.deferred (some [])) ∧ (
                LoadB (h41.setIfInBounds h21.size (.deferred none)) (⟨b, 0, none⟩ : Addr) fun res_0_5 =>
                R (.bool res_0_5) (h41.setIfInBounds h21.size (.deferred none))))))
 | false => False))))))) (0, ()) h7)))

def a_wherrylaw05_MemLast : Ann := .seq .none (.seq (.seq .none (.cond (.seq .none .none) .none)) (.seq .none (.seq .none (.seq (.seq .none (.block (.loop [(18, .one (.int .i64))] [2, 3, 4, 16, 17] (.seq .none (.seq (.cond .none .none) (.seq (.blockJ [] [2, 3, 4, 16, 17, 18] (.seq .none (.seq .none (.cond .none .none)))) .none)))))) (.seq .none (.seq .none (.seq .none (.seq (.seq .none (.block (.range [.agg [.str, .str, .bool]] .none (.block (.seq (.seq (.reg [(50, .one .bool)] [2, 9, 10, 11]) (.cond (.seq .none .none) .none)) (.seq .none .none)))))) (.seq .none .none)))))))))

theorem e_wherrylaw05_MemLast (A : Amb) (puts : Sl) (h : Heap) (R : Value → Heap → Prop) : F_wherrylaw05_MemLast A puts h R = semFun A P f_wherrylaw05_MemLast a_wherrylaw05_MemLast [.slice puts.p puts.len puts.cap] h R := by kernel_rfl
theorem ok_wherrylaw05_MemLast {A : Amb} {puts : Sl} {h : Heap} {R : Value → Heap → Prop} (H : F_wherrylaw05_MemLast A puts h R) : HCalls A P f_wherrylaw05_MemLast #[.slice puts.p puts.len puts.cap] h R :=
  semFun_sound mixed (e_wherrylaw05_MemLast A puts h R ▸ H)

/-- wherry/wherrylaw08.MergeSome -/
def F_wherrylaw08_MergeSome (A : Amb) (l : Sl) (vto : ByteArray) (most : Int) (h : Heap) (R : Value → Heap → Prop) : Prop :=
  HCalls A P f_wherrylaw08_awake #[] h fun v h1 => ∃ t7 : Bool, v = .bool t7 ∧ (
  PIf (!t7) (
    R (.bool false) h1) (
    Join (fun (r : Bool × Unit) h2 =>
        PIf r.1 (
          R (.bool false) h2) (
          HCalls A P f_merge_Live #[.nilFunc] h2 fun v1 h3 => ∃ t30 : Value, v1 = t30 ∧ (
          HCalls A P f_slices_Collect_of_api_Pair #[t30] h3 fun v2 h4 => ∃ t31 : Sl, v2 = .slice t31.p t31.len t31.cap ∧ (
          PIf (((t31.len : Nat) : Int) == (0 : Int)) (
            HCalls A P f_merge_Some #[.nilFunc, .string vto, .int .i64 most] h4 fun v3 h5 => ∃ t37 : Sl, v3 = .slice t37.p t37.len t37.cap ∧ (
            PIf (((t37.len : Nat) : Int) == (0 : Int)) (
              HCalls A P f_merge_All #[.slice none 0 0] h5 fun v4 h6 => ∃ t42 : Value, v4 = t42 ∧ (
              HCalls A P f_slices_Collect_of_api_Pair #[t42] h6 fun v5 h7 => ∃ t43 : Sl, v5 = .slice t43.p t43.len t43.cap ∧ (
              R (.bool (((t43.len : Nat) : Int) == (0 : Int))) h7))) (
              R (.bool false) h5))) (
            R (.bool false) h4))))) fun K =>
      HCalls A P f_slices_Values_of___api_Pair_api_Pair #[.slice l.p l.len l.cap] h1 fun v6 h8 => ∃ t10 : Value, v6 = t10 ∧ (
      HCalls A P f_merge_Live #[t10] h8 fun v7 h9 => ∃ t11 : Value, v7 = t11 ∧ (
      HCalls A P f_slices_Collect_of_api_Pair #[t11] h9 fun v8 h10 => ∃ t12 : Sl, v8 = .slice t12.p t12.len t12.cap ∧ (
      HCalls A P f_wherryref08_Live #[.slice l.p l.len l.cap] h10 fun v9 h11 => ∃ t14 : Sl, v9 = .slice t14.p t14.len t14.cap ∧ (
      HCalls A P f_wherryref05_Same #[.slice t12.p t12.len t12.cap, .slice t14.p t14.len t14.cap] h11 fun v10 h12 => ∃ t15 : Bool, v10 = .bool t15 ∧ (
      PIf (!t15) (
        K (true, ()) h12) (
        HCalls A P f_slices_Values_of___api_Pair_api_Pair #[.slice l.p l.len l.cap] h12 fun v11 h13 => ∃ t19 : Value, v11 = t19 ∧ (
        HCalls A P f_merge_Some #[t19, .string vto, .int .i64 most] h13 fun v12 h14 => ∃ t22 : Sl, v12 = .slice t22.p t22.len t22.cap ∧ (
        HCalls A P f_wherryref08_Some #[.slice l.p l.len l.cap, .string vto, .int .i64 most] h14 fun v13 h15 => ∃ t26 : Sl, v13 = .slice t26.p t26.len t26.cap ∧ (
        HCalls A P f_wherryref05_Same #[.slice t22.p t22.len t22.cap, .slice t26.p t26.len t26.cap] h15 fun v14 h16 => ∃ t27 : Bool, v14 = .bool t27 ∧ (
        K ((!t27), ()) h16))))))))))))

def a_wherrylaw08_MergeSome : Ann := .seq .none (.seq (.seq .none (.cond (.seq .none .none) .none)) (.seq (.seq (.reg [(29, .one .bool)] [1, 2]) (.cond (.seq .none .none) .none)) (.seq .none .none)))

theorem e_wherrylaw08_MergeSome (A : Amb) (l : Sl) (vto : ByteArray) (most : Int) (h : Heap) (R : Value → Heap → Prop) : F_wherrylaw08_MergeSome A l vto most h R = semFun A P f_wherrylaw08_MergeSome a_wherrylaw08_MergeSome [.slice l.p l.len l.cap, .string vto, .int .i64 most] h R := by kernel_rfl
theorem ok_wherrylaw08_MergeSome {A : Amb} {l : Sl} {vto : ByteArray} {most : Int} {h : Heap} {R : Value → Heap → Prop} (H : F_wherrylaw08_MergeSome A l vto most h R) : HCalls A P f_wherrylaw08_MergeSome #[.slice l.p l.len l.cap, .string vto, .int .i64 most] h R :=
  semFun_sound mixed (e_wherrylaw08_MergeSome A l vto most h R ▸ H)

/-- wherry/wherrylaw05.MemRuns -/
def F_wherrylaw05_MemRuns (A : Amb) (puts : Sl) (asks : Sl) (h : Heap) (R : Value → Heap → Prop) : Prop :=
  HCalls A P f_wherrylaw05_awake #[] h fun v h1 => ∃ t17 : Bool, v = .bool t17 ∧ (
  PIf (!t17) (
    R (.bool false) h1) (
    HCalls A P f_mem_New #[] h1 fun v1 h2 => ∃ t19 : Option Addr, v1 = .pointer t19 ∧ (
    New h2 (.cells #[.slice none 0 0] t_wherryref05_Table) fun b h3 =>
    Loop (fun K (s : Int × Unit) h4 =>
      PIf (decide (s.1 < ((puts.len : Nat) : Int))) (
        Join (fun (s1 : Unit) h5 =>
            K ((IntKind.wrap .i64 (s.1 + (1 : Int))), ()) h5) fun K1 =>
          Idx puts.p puts.len s.1 fun a =>
          LoadS h4 (a.add (s.1.toNat * 3)) fun t28_0 =>
          LoadS h4 ((a.add (s.1.toNat * 3)).add 1) fun t28_1 =>
          LoadB h4 ((a.add (s.1.toNat * 3)).add 2) fun t28_2 =>
          New h4 (.cells #[.string (⟨#[]⟩ : ByteArray), .string (⟨#[]⟩ : ByteArray), .bool false] t_api_Pair) fun b1 h6 =>
          Store h6 (⟨b1, 0, none⟩ : Addr) (.string t28_0) fun h7 =>
          Store h7 ((⟨b1, 0, none⟩ : Addr).add 1) (.string t28_1) fun h8 =>
          Store h8 ((⟨b1, 0, none⟩ : Addr).add 2) (.bool t28_2) fun h9 =>
          LoadS h9 (⟨b1, 0, none⟩ : Addr) fun t30_0 =>
          LoadS h9 ((⟨b1, 0, none⟩ : Addr).add 1) fun t30_1 =>
          LoadB h9 ((⟨b1, 0, none⟩ : Addr).add 2) fun t30_2 =>
          HCalls A P f_mem_Table_Put #[.pointer t19, .agg #[.string t30_0, .string t30_1, .bool t30_2]] h9 fun v2 h10 => ∃ t31 : Int, v2 = .int .i64 t31 ∧ (
          LoadS h10 (⟨b1, 0, none⟩ : Addr) fun t33_0 =>
          LoadS h10 ((⟨b1, 0, none⟩ : Addr).add 1) fun t33_1 =>
          LoadB h10 ((⟨b1, 0, none⟩ : Addr).add 2) fun t33_2 =>
          (hget h9 (⟨b1, 0, none⟩ : Addr) = some (.string t33_0) ∧ hget h9 ((⟨b1, 0, none⟩ : Addr).add 1) = some (.string t33_1) ∧ hget h9 ((⟨b1, 0, none⟩ : Addr).add 2) = some (.bool t33_2)) ∧
          HCalls A P f_wherryref05_Table_Put #[.pointer (some (⟨b, 0, none⟩ : Addr)), .agg #[.string t33_0, .string t33_1, .bool t33_2]] h10 fun v3 h11 => ∃ t34 : Int, v3 = .int .i64 t34 ∧ (
          PIf (t31 != t34) (
            R (.bool false) h11) (
            HCalls A P f_mem_Table_Len #[.pointer t19] h11 fun v4 h12 => ∃ t38a : Int, ∃ t38b : Int, v4 = .tuple #[.int .i64 t38a, .int .i64 t38b] ∧ (
            HCalls A P f_wherryref05_Table_Len #[.pointer (some (⟨b, 0, none⟩ : Addr))] h12 fun v5 h13 => ∃ t43a : Int, ∃ t43b : Int, v5 = .tuple #[.int .i64 t43a, .int .i64 t43b] ∧ (
            Join (fun (r : Bool × Unit) h14 =>
                PIf r.1 (
                  R (.bool false) h14) (
                  PIf (decide (s.1 < ((asks.len : Nat) : Int))) (
                    Idx asks.p asks.len s.1 fun a1 =>
                    LoadS h14 (a1.add (s.1.toNat * 1)) fun t63 =>
                    HCalls A P f_mem_Table_Get #[.pointer t19, .string t63] h14 fun v6 h15 => ∃ t64a_0 : ByteArray, ∃ t64a_1 : ByteArray, ∃ t64a_2 : Bool, ∃ t64b : Bool, v6 = .tuple #[.agg #[.string t64a_0, .string t64a_1, .bool t64a_2], .bool t64b] ∧ (
                    New h15 (.cells #[.string (⟨#[]⟩ : ByteArray), .string (⟨#[]⟩ : ByteArray), .bool false] t_api_Pair) fun b2 h16 =>
                    Store h16 (⟨b2, 0, none⟩ : Addr) (.string t64a_0) fun h17 =>
                    Store h17 ((⟨b2, 0, none⟩ : Addr).add 1) (.string t64a_1) fun h18 =>
                    Store h18 ((⟨b2, 0, none⟩ : Addr).add 2) (.bool t64a_2) fun h19 =>
                    Idx asks.p asks.len s.1 fun a2 =>
                    LoadS h19 (a2.add (s.1.toNat * 1)) fun t72 =>
                    HCalls A P f_wherryref05_Table_Get #[.pointer (some (⟨b, 0, none⟩ : Addr)), .string t72] h19 fun v7 h20 => ∃ t73a_0 : ByteArray, ∃ t73a_1 : ByteArray, ∃ t73a_2 : Bool, ∃ t73b : Bool, v7 = .tuple #[.agg #[.string t73a_0, .string t73a_1, .bool t73a_2], .bool t73b] ∧ (
                    New h20 (.cells #[.string (⟨#[]⟩ : ByteArray), .string (⟨#[]⟩ : ByteArray), .bool false] t_api_Pair) fun b3 h21 =>
                    Store h21 (⟨b3, 0, none⟩ : Addr) (.string t73a_0) fun h22 =>
                    Store h22 ((⟨b3, 0, none⟩ : Addr).add 1) (.string t73a_1) fun h23 =>
                    Store h23 ((⟨b3, 0, none⟩ : Addr).add 2) (.bool t73a_2) fun h24 =>
                    Join (fun (r1 : Bool × Unit) h25 =>
                        PIf r1.1 (
                          R (.bool false) h25) (
                          K1 () h25)) fun K3 =>
                      LoadS h24 (⟨b2, 0, none⟩ : Addr) fun t76_0 =>
                      LoadS h24 ((⟨b2, 0, none⟩ : Addr).add 1) fun t76_1 =>
                      LoadB h24 ((⟨b2, 0, none⟩ : Addr).add 2) fun t76_2 =>
                      LoadS h24 (⟨b3, 0, none⟩ : Addr) fun t77_0 =>
                      LoadS h24 ((⟨b3, 0, none⟩ : Addr).add 1) fun t77_1 =>
                      LoadB h24 ((⟨b3, 0, none⟩ : Addr).add 2) fun t77_2 =>
                      RunK A P (do eqGuard .neq t_api_Pair (.tmp 76) (.tmp 77) (.agg #[.string t76_0, .string t76_1, .bool t76_2]) (.agg #[.string t77_0, .string t77_1, .bool t77_2]); binOp .neq t_api_Pair (.agg #[.string t76_0, .string t76_1, .bool t76_2]) (.agg #[.string t77_0, .string t77_1, .bool t77_2])) h24 fun v8 h26 => ∃ t78 : Bool, v8 = .bool t78 ∧ (
                      PIf t78 (
                        K3 (true, ()) h26) (
                        PIf (!(t64b == t73b)) (
                          K3 (true, ()) h26) (
                          Idx asks.p asks.len s.1 fun a3 =>
                          LoadS h26 (a3.add (s.1.toNat * 1)) fun t89 =>
                          HCalls A P f_mem_Table_From #[.pointer t19, .string t89] h26 fun v9 h27 => ∃ t90 : Value, v9 = t90 ∧ (
                          HCalls A P f_slices_Collect_of_api_Pair #[t90] h27 fun v10 h28 => ∃ t91 : Sl, v10 = .slice t91.p t91.len t91.cap ∧ (
                          Idx asks.p asks.len s.1 fun a4 =>
                          LoadS h28 (a4.add (s.1.toNat * 1)) fun t96 =>
                          (hget h27 (a4.add (s.1.toNat * 1)) = some (.string t96)) ∧
                          (hget h26 (a4.add (s.1.toNat * 1)) = some (.string t96)) ∧
                          HCalls A P f_wherryref05_Table_From #[.pointer (some (⟨b, 0, none⟩ : Addr)), .string t96] h28 fun v11 h29 => ∃ t97 : Sl, v11 = .slice t97.p t97.len t97.cap ∧ (
                          HCalls A P f_wherryref05_Same #[.slice t91.p t91.len t91.cap, .slice t97.p t97.len t97.cap] h29 fun v12 h30 => ∃ t98 : Bool, v12 = .bool t98 ∧ (
                          K3 ((!t98), ()) h30)))))))))) (
                    K1 () h14))) fun K2 =>
              PIf (t38a != t43a) (
                K2 (true, ()) h13) (
                K2 ((t38b != t43b), ()) h13))))))) (
        HCalls A P f_mem_Table_From #[.pointer t19, .string (⟨#[]⟩ : ByteArray)] h4 fun v13 h31 => ∃ t103 : Value, v13 = t103 ∧ (
        HCalls A P f_slices_Collect_of_api_Pair #[t103] h31 fun v14 h32 => ∃ t104 : Sl, v14 = .slice t104.p t104.len t104.cap ∧ (
        HCalls A P f_wherryref05_Table_From #[.pointer (some (⟨b, 0, none⟩ : Addr)), .string (⟨#[]⟩ : ByteArray)] h32 fun v15 h33 => ∃ t106 : Sl, v15 = .slice t106.p t106.len t106.cap ∧ (
        HCalls A P f_wherryref05_Same #[.slice t104.p t104.len t104.cap, .slice t106.p t106.len t106.cap] h33 fun v16 h34 => ∃ t107 : Bool, v16 = .bool t107 ∧ (
        R (.bool t107) h34)))))) (0, ()) h3)))

def a_wherrylaw05_MemRuns : Ann := .seq .none (.seq (.seq .none (.cond (.seq .none .none) .none)) (.seq .none (.seq (.seq .none (.block (.loop [(24, .one (.int .i64))] [1, 5, 6, 22, 23] (.seq .none (.seq (.cond .none .none) (.seq (.blockJ [] [1, 5, 6, 22, 23, 24] (.seq .none (.seq (.seq .none (.cond (.seq .none .none) .none)) (.seq .none (.seq .none (.seq (.seq (.reg [(53, .one .bool)] [1, 5, 6, 7, 22, 23, 24]) (.cond (.seq .none .none) .none)) (.seq .none (.cond (.seq .none (.seq .none (.seq (.reg [(100, .one .bool)] [1, 5, 6, 22, 23, 24]) (.cond (.seq .none .none) .none)))) .none)))))))) .none)))))) (.seq .none .none))))

theorem e_wherrylaw05_MemRuns (A : Amb) (puts : Sl) (asks : Sl) (h : Heap) (R : Value → Heap → Prop) : F_wherrylaw05_MemRuns A puts asks h R = semFun A P f_wherrylaw05_MemRuns a_wherrylaw05_MemRuns [.slice puts.p puts.len puts.cap, .slice asks.p asks.len asks.cap] h R := by kernel_rfl
theorem ok_wherrylaw05_MemRuns {A : Amb} {puts : Sl} {asks : Sl} {h : Heap} {R : Value → Heap → Prop} (H : F_wherrylaw05_MemRuns A puts asks h R) : HCalls A P f_wherrylaw05_MemRuns #[.slice puts.p puts.len puts.cap, .slice asks.p asks.len asks.cap] h R :=
  semFun_sound mixed (e_wherrylaw05_MemRuns A puts asks h R ▸ H)

/-- wherry/wherrylaw08.awake -/
def F_wherrylaw08_awake (A : Amb) (h : Heap) (R : Value → Heap → Prop) : Prop :=
  New h (.cells #[.string (⟨#[97]⟩ : ByteArray), .string (⟨#[49]⟩ : ByteArray), .bool false] t_api_Pair) fun b h1 =>
  HCalls A P f_slices_Values_of___api_Pair_api_Pair #[.slice (some (⟨b, 0, none⟩ : Addr)) 1 1] h1 fun v h2 => ∃ t5 : Value, v = t5 ∧ (
  New h2 (.cells #[.string (⟨#[97]⟩ : ByteArray), .string (⟨#[50]⟩ : ByteArray), .bool false, .string (⟨#[98]⟩ : ByteArray), .string (⟨#[]⟩ : ByteArray), .bool false] t_api_Pair) fun b1 h3 =>
  HCalls A P f_slices_Values_of___api_Pair_api_Pair #[.slice (some (⟨b1, 0, none⟩ : Addr)) 2 2] h3 fun v1 h4 => ∃ t9 : Value, v1 = t9 ∧ (
  OneK (oneB t5) <|
  OneK (oneB t9) <|
  New h4 (.cells #[t5, .nilFunc, t9] t_iter_Seq_wherry_api_Pair) fun b2 h5 =>
  HCalls A P f_merge_All #[.slice (some (⟨b2, 0, none⟩ : Addr)) 3 3] h5 fun v2 h6 => ∃ t11 : Value, v2 = t11 ∧ (
  Chk (isFn t11) <|
  PIf ((isNilF t11)) (
    R (.bool false) h6) (
    HCalls A P f_slices_Collect_of_api_Pair #[t11] h6 fun v3 h7 => ∃ t15 : Sl, v3 = .slice t15.p t15.len t15.cap ∧ (
    PIf (((t15.len : Nat) : Int) == (2 : Int)) (
      Idx t15.p t15.len 0 fun a =>
      LoadS h7 ((a.add ((0 : Int).toNat * 3)).add 1) fun t23 =>
      PIf (sEq t23 (⟨#[49]⟩ : ByteArray)) (
        Idx t15.p t15.len 1 fun a1 =>
        LoadS h7 (a1.add ((1 : Int).toNat * 3)) fun t30 =>
        R (.bool (sEq t30 (⟨#[98]⟩ : ByteArray))) h7) (
        R (.bool false) h7)) (
      R (.bool false) h7))))))

def a_wherrylaw08_awake : Ann := .seq .none (.seq .none (.seq (.seq .none (.cond (.seq .none .none) .none)) (.seq .none (.seq .none .none))))

theorem e_wherrylaw08_awake (A : Amb) (h : Heap) (R : Value → Heap → Prop) : F_wherrylaw08_awake A h R = semFun A P f_wherrylaw08_awake a_wherrylaw08_awake [] h R := by kernel_rfl
theorem ok_wherrylaw08_awake {A : Amb} {h : Heap} {R : Value → Heap → Prop} (H : F_wherrylaw08_awake A h R) : HCalls A P f_wherrylaw08_awake #[] h R :=
  semFun_sound mixed (e_wherrylaw08_awake A h R ▸ H)

/-- wherry/wherrylaw08.ordered -/
def F_wherrylaw08_ordered (A : Amb) (lists : Sl) (h : Heap) (R : Value → Heap → Prop) : Prop :=
  Loop (fun K (s : Sl × Int × Unit) h1 =>
    PIf (decide (s.2.1 < ((lists.len : Nat) : Int))) (
      Idx lists.p lists.len s.2.1 fun a =>
      LoadL h1 (a.add (s.2.1.toNat * 1)) fun t14 =>
      New h1 (.cells #[.slice none 0 0] t_wherryref05_Table) fun b h2 =>
      Loop (fun K1 (s1 : Int × Unit) h3 =>
        PIf (decide (s1.1 < ((t14.len : Nat) : Int))) (
          Idx t14.p t14.len s1.1 fun a1 =>
          LoadS h3 (a1.add (s1.1.toNat * 3)) fun t22_0 =>
          LoadS h3 ((a1.add (s1.1.toNat * 3)).add 1) fun t22_1 =>
          LoadB h3 ((a1.add (s1.1.toNat * 3)).add 2) fun t22_2 =>
          New h3 (.cells #[.string (⟨#[]⟩ : ByteArray), .string (⟨#[]⟩ : ByteArray), .bool false] t_api_Pair) fun b1 h4 =>
          Store h4 (⟨b1, 0, none⟩ : Addr) (.string t22_0) fun h5 =>
          Store h5 ((⟨b1, 0, none⟩ : Addr).add 1) (.string t22_1) fun h6 =>
          Store h6 ((⟨b1, 0, none⟩ : Addr).add 2) (.bool t22_2) fun h7 =>
          LoadS h7 (⟨b1, 0, none⟩ : Addr) fun t24_0 =>
          LoadS h7 ((⟨b1, 0, none⟩ : Addr).add 1) fun t24_1 =>
          LoadB h7 ((⟨b1, 0, none⟩ : Addr).add 2) fun t24_2 =>
          HCalls A P f_wherryref05_Table_Put #[.pointer (some (⟨b, 0, none⟩ : Addr)), .agg #[.string t24_0, .string t24_1, .bool t24_2]] h7 fun v h8 => ∃ t25 : Int, v = .int .i64 t25 ∧ (
          K1 ((IntKind.wrap .i64 (s1.1 + (1 : Int))), ()) h8)) (
          LoadL h3 (⟨b, 0, none⟩ : Addr) fun t31 =>
          New h3 (.cells #[.slice t31.p t31.len t31.cap] t_sl_api_Pair) fun b2 h9 =>
          RunK A P (Builtin.append_ #[t_sl_sl_api_Pair, t_sl_sl_api_Pair] t_sl_sl_api_Pair #[.slice s.1.p s.1.len s.1.cap, .slice (some (⟨b2, 0, none⟩ : Addr)) 1 1]) h9 fun v1 h10 => ∃ t33 : Sl, v1 = .slice t33.p t33.len t33.cap ∧ (
          K ((⟨t33.p, t33.len, t33.cap⟩ : Sl), (IntKind.wrap .i64 (s.2.1 + (1 : Int))), ()) h10))) (0, ()) h2) (
      R (.slice s.1.p s.1.len s.1.cap) h1)) ((⟨none, 0, 0⟩ : Sl), 0, ()) h

def a_wherrylaw08_ordered : Ann := .seq .none (.seq .none (.seq (.seq .none (.block (.loop [(3, .one .sl), (11, .one (.int .i64))] [9, 10] (.seq .none (.seq (.cond .none .none) (.seq (.block (.seq .none (.seq .none (.seq (.seq .none (.block (.loop [(19, .one (.int .i64))] [3, 6, 9, 10, 11, 17, 18] (.seq .none (.seq (.cond .none .none) (.seq (.block (.seq .none .none)) .none)))))) .none)))) .none)))))) (.seq .none .none)))

theorem e_wherrylaw08_ordered (A : Amb) (lists : Sl) (h : Heap) (R : Value → Heap → Prop) : F_wherrylaw08_ordered A lists h R = semFun A P f_wherrylaw08_ordered a_wherrylaw08_ordered [.slice lists.p lists.len lists.cap] h R := by kernel_rfl
theorem ok_wherrylaw08_ordered {A : Amb} {lists : Sl} {h : Heap} {R : Value → Heap → Prop} (H : F_wherrylaw08_ordered A lists h R) : HCalls A P f_wherrylaw08_ordered #[.slice lists.p lists.len lists.cap] h R :=
  semFun_sound mixed (e_wherrylaw08_ordered A lists h R ▸ H)

/-- wherry/wherryref05.Same -/
def F_wherryref05_Same (A : Amb) (a : Sl) (b : Sl) (h : Heap) (R : Value → Heap → Prop) : Prop :=
  PIf (((a.len : Nat) : Int) != ((b.len : Nat) : Int)) (
    R (.bool false) h) (
    Loop (fun K (s : Int × Unit) h1 =>
      PIf (decide (s.1 < ((a.len : Nat) : Int))) (
        Idx a.p a.len s.1 fun a1 =>
        LoadS h1 (a1.add (s.1.toNat * 3)) fun t20_0 =>
        LoadS h1 ((a1.add (s.1.toNat * 3)).add 1) fun t20_1 =>
        LoadB h1 ((a1.add (s.1.toNat * 3)).add 2) fun t20_2 =>
        Idx b.p b.len s.1 fun a2 =>
        LoadS h1 (a2.add (s.1.toNat * 3)) fun t24_0 =>
        LoadS h1 ((a2.add (s.1.toNat * 3)).add 1) fun t24_1 =>
        LoadB h1 ((a2.add (s.1.toNat * 3)).add 2) fun t24_2 =>
        RunK A P (do eqGuard .neq t_api_Pair (.tmp 20) (.tmp 24) (.agg #[.string t20_0, .string t20_1, .bool t20_2]) (.agg #[.string t24_0, .string t24_1, .bool t24_2]); binOp .neq t_api_Pair (.agg #[.string t20_0, .string t20_1, .bool t20_2]) (.agg #[.string t24_0, .string t24_1, .bool t24_2])) h1 fun v h2 => ∃ t25 : Bool, v = .bool t25 ∧ (
        PIf t25 (
          R (.bool false) h2) (
          K ((IntKind.wrap .i64 (s.1 + (1 : Int))), ()) h2))) (
        R (.bool true) h1)) (0, ()) h)

def a_wherryref05_Same : Ann := .seq .none (.seq (.seq .none (.cond (.seq .none .none) .none)) (.seq (.seq .none (.block (.loop [(5, .one (.int .i64))] [0, 1] (.seq (.seq .none (.cond .none .none)) (.seq (.block (.seq .none (.cond (.seq .none .none) .none))) .none))))) (.seq .none .none)))

theorem e_wherryref05_Same (A : Amb) (a : Sl) (b : Sl) (h : Heap) (R : Value → Heap → Prop) : F_wherryref05_Same A a b h R = semFun A P f_wherryref05_Same a_wherryref05_Same [.slice a.p a.len a.cap, .slice b.p b.len b.cap] h R := by kernel_rfl
theorem ok_wherryref05_Same {A : Amb} {a : Sl} {b : Sl} {h : Heap} {R : Value → Heap → Prop} (H : F_wherryref05_Same A a b h R) : HCalls A P f_wherryref05_Same #[.slice a.p a.len a.cap, .slice b.p b.len b.cap] h R :=
  semFun_sound mixed (e_wherryref05_Same A a b h R ▸ H)

/-- slices.Collect[wherry/api.Pair] -/
def F_slices_Collect_of_api_Pair (A : Amb) (seq : Value) (h : Heap) (R : Value → Heap → Prop) : Prop :=
  HCalls A P f_slices_AppendSeq_of___api_Pair_api_Pair #[.slice none 0 0, seq] h fun v h1 => ∃ t4 : Sl, v = .slice t4.p t4.len t4.cap ∧ (
  R (.slice t4.p t4.len t4.cap) h1)

def a_slices_Collect_of_api_Pair : Ann := .seq .none (.seq .none .none)

theorem e_slices_Collect_of_api_Pair (A : Amb) (seq : Value) (h : Heap) (R : Value → Heap → Prop) : F_slices_Collect_of_api_Pair A seq h R = semFun A P f_slices_Collect_of_api_Pair a_slices_Collect_of_api_Pair [seq] h R := by kernel_rfl
theorem ok_slices_Collect_of_api_Pair {A : Amb} {seq : Value} {h : Heap} {R : Value → Heap → Prop} (H : F_slices_Collect_of_api_Pair A seq h R) : HCalls A P f_slices_Collect_of_api_Pair #[seq] h R :=
  semFun_sound mixed (e_slices_Collect_of_api_Pair A seq h R ▸ H)

/-- wherry/merge.All -/
def F_merge_All (A : Amb) (l : Sl) (h : Heap) (R : Value → Heap → Prop) : Prop :=
  New h (.cells #[.slice l.p l.len l.cap] t_sl_iter_Seq_wherry_api_Pair) fun b h1 =>
  R ((.func (.func f_merge_All_1) #[] #[.pointer (some (⟨b, 0, none⟩ : Addr))])) h1

def a_merge_All : Ann := .seq .none (.seq .none .none)

theorem e_merge_All (A : Amb) (l : Sl) (h : Heap) (R : Value → Heap → Prop) : F_merge_All A l h R = semFun A P f_merge_All a_merge_All [.slice l.p l.len l.cap] h R := by kernel_rfl
theorem ok_merge_All {A : Amb} {l : Sl} {h : Heap} {R : Value → Heap → Prop} (H : F_merge_All A l h R) : HCalls A P f_merge_All #[.slice l.p l.len l.cap] h R :=
  semFun_sound mixed (e_merge_All A l h R ▸ H)

/-- wherry/wherrylaw08.seqs -/
def F_wherrylaw08_seqs (A : Amb) (lists : Sl) (h : Heap) (R : Value → Heap → Prop) : Prop :=
  Loop (fun K (s : Sl × Int × Unit) h1 =>
    PIf (decide (s.2.1 < ((lists.len : Nat) : Int))) (
      Join (fun (s1 : Sl × Unit) h2 =>
          K ((⟨s1.1.p, s1.1.len, s1.1.cap⟩ : Sl), (IntKind.wrap .i64 (s.2.1 + (1 : Int))), ()) h2) fun K1 =>
        Idx lists.p lists.len s.2.1 fun a =>
        LoadL h1 (a.add (s.2.1.toNat * 1)) fun t11 =>
        PIf (((t11.len : Nat) : Int) == (0 : Int)) (
          New h1 (.cells #[.nilFunc] t_iter_Seq_wherry_api_Pair) fun b h3 =>
          RunK A P (Builtin.append_ #[t_sl_iter_Seq_wherry_api_Pair, t_sl_iter_Seq_wherry_api_Pair] t_sl_iter_Seq_wherry_api_Pair #[.slice s.1.p s.1.len s.1.cap, .slice (some (⟨b, 0, none⟩ : Addr)) 1 1]) h3 fun v h4 => ∃ t17 : Sl, v = .slice t17.p t17.len t17.cap ∧ (
          K1 ((⟨t17.p, t17.len, t17.cap⟩ : Sl), ()) h4)) (
          HCalls A P f_slices_Values_of___api_Pair_api_Pair #[.slice t11.p t11.len t11.cap] h1 fun v1 h5 => ∃ t20 : Value, v1 = t20 ∧ (
          OneK (oneB t20) <|
          New h5 (.cells #[t20] t_iter_Seq_wherry_api_Pair) fun b1 h6 =>
          RunK A P (Builtin.append_ #[t_sl_iter_Seq_wherry_api_Pair, t_sl_iter_Seq_wherry_api_Pair] t_sl_iter_Seq_wherry_api_Pair #[.slice s.1.p s.1.len s.1.cap, .slice (some (⟨b1, 0, none⟩ : Addr)) 1 1]) h6 fun v2 h7 => ∃ t22 : Sl, v2 = .slice t22.p t22.len t22.cap ∧ (
          K1 ((⟨t22.p, t22.len, t22.cap⟩ : Sl), ()) h7)))) (
      R (.slice s.1.p s.1.len s.1.cap) h1)) ((⟨none, 0, 0⟩ : Sl), 0, ()) h

def a_wherrylaw08_seqs : Ann := .seq .none (.seq .none (.seq (.seq .none (.block (.loop [(3, .one .sl), (8, .one (.int .i64))] [6, 7] (.seq .none (.seq (.cond .none .none) (.seq (.blockJ [(3, .one .sl)] [6, 7, 8] (.seq .none (.seq (.seq .none (.cond (.seq .none .none) .none)) .none))) .none)))))) (.seq .none .none)))

theorem e_wherrylaw08_seqs (A : Amb) (lists : Sl) (h : Heap) (R : Value → Heap → Prop) : F_wherrylaw08_seqs A lists h R = semFun A P f_wherrylaw08_seqs a_wherrylaw08_seqs [.slice lists.p lists.len lists.cap] h R := by kernel_rfl
theorem ok_wherrylaw08_seqs {A : Amb} {lists : Sl} {h : Heap} {R : Value → Heap → Prop} (H : F_wherrylaw08_seqs A lists h R) : HCalls A P f_wherrylaw08_seqs #[.slice lists.p lists.len lists.cap] h R :=
  semFun_sound mixed (e_wherrylaw08_seqs A lists h R ▸ H)

/-- wherry/wherryref08.All -/
def F_wherryref08_All (A : Amb) (l : Sl) (h : Heap) (R : Value → Heap → Prop) : Prop :=
  New h (.cells #[.slice none 0 0] t_wherryref05_Table) fun b h1 =>
  Loop (fun K (s : Int × Unit) h2 =>
    PIf (decide (s.1 ≥ (0 : Int))) (
      Loop (fun K1 (s1 : Int × Unit) h3 =>
        Idx l.p l.len s.1 fun a =>
        LoadL h3 (a.add (s.1.toNat * 1)) fun t19 =>
        PIf (decide (s1.1 < ((t19.len : Nat) : Int))) (
          Idx l.p l.len s.1 fun a1 =>
          LoadL h3 (a1.add (s.1.toNat * 1)) fun t28 =>
          Idx t28.p t28.len s1.1 fun a2 =>
          LoadS h3 (a2.add (s1.1.toNat * 3)) fun t31_0 =>
          LoadS h3 ((a2.add (s1.1.toNat * 3)).add 1) fun t31_1 =>
          LoadB h3 ((a2.add (s1.1.toNat * 3)).add 2) fun t31_2 =>
          HCalls A P f_wherryref05_Table_Put #[.pointer (some (⟨b, 0, none⟩ : Addr)), .agg #[.string t31_0, .string t31_1, .bool t31_2]] h3 fun v h4 => ∃ t32 : Int, v = .int .i64 t32 ∧ (
          K1 ((IntKind.wrap .i64 (s1.1 + (1 : Int))), ()) h4)) (
          K ((IntKind.wrap .i64 (s.1 - (1 : Int))), ()) h3)) (0, ()) h2) (
      LoadL h2 (⟨b, 0, none⟩ : Addr) fun t36 =>
      R (.slice t36.p t36.len t36.cap) h2)) ((IntKind.wrap .i64 (((l.len : Nat) : Int) - (1 : Int))), ()) h1

def a_wherryref08_All : Ann := .seq .none (.seq .none (.seq (.seq .none (.block (.loop [(4, .one (.int .i64))] [0, 3] (.seq (.seq .none (.cond .none .none)) (.seq (.block (.seq .none (.block (.loop [(5, .one (.int .i64))] [0, 3, 4] (.seq (.seq .none (.cond .none .none)) (.seq (.block .none) .none)))))) .none))))) (.seq .none .none)))

theorem e_wherryref08_All (A : Amb) (l : Sl) (h : Heap) (R : Value → Heap → Prop) : F_wherryref08_All A l h R = semFun A P f_wherryref08_All a_wherryref08_All [.slice l.p l.len l.cap] h R := by kernel_rfl
theorem ok_wherryref08_All {A : Amb} {l : Sl} {h : Heap} {R : Value → Heap → Prop} (H : F_wherryref08_All A l h R) : HCalls A P f_wherryref08_All #[.slice l.p l.len l.cap] h R :=
  semFun_sound mixed (e_wherryref08_All A l h R ▸ H)

/-- wherry/merge.Live -/
def F_merge_Live (A : Amb) (s : Value) (h : Heap) (R : Value → Heap → Prop) : Prop :=
  OneK (oneB s) <|
  New h (.cells #[s] t_iter_Seq_wherry_api_Pair) fun b h1 =>
  R ((.func (.func f_merge_Live_1) #[] #[.pointer (some (⟨b, 0, none⟩ : Addr))])) h1

def a_merge_Live : Ann := .seq .none (.seq .none .none)

theorem e_merge_Live (A : Amb) (s : Value) (h : Heap) (R : Value → Heap → Prop) : F_merge_Live A s h R = semFun A P f_merge_Live a_merge_Live [s] h R := by kernel_rfl
theorem ok_merge_Live {A : Amb} {s : Value} {h : Heap} {R : Value → Heap → Prop} (H : F_merge_Live A s h R) : HCalls A P f_merge_Live #[s] h R :=
  semFun_sound mixed (e_merge_Live A s h R ▸ H)

/-- wherry/wherryref08.Live -/
def F_wherryref08_Live (A : Amb) (l : Sl) (h : Heap) (R : Value → Heap → Prop) : Prop :=
  Loop (fun K (s : Sl × Int × Unit) h1 =>
    PIf (decide (s.2.1 < ((l.len : Nat) : Int))) (
      Join (fun (s1 : Sl × Unit) h2 =>
          K ((⟨s1.1.p, s1.1.len, s1.1.cap⟩ : Sl), (IntKind.wrap .i64 (s.2.1 + (1 : Int))), ()) h2) fun K1 =>
        Idx l.p l.len s.2.1 fun a =>
        LoadB h1 ((a.add (s.2.1.toNat * 3)).add 2) fun t15 =>
        PIf (!t15) (
          Idx l.p l.len s.2.1 fun a1 =>
          LoadS h1 (a1.add (s.2.1.toNat * 3)) fun t21_0 =>
          LoadS h1 ((a1.add (s.2.1.toNat * 3)).add 1) fun t21_1 =>
          LoadB h1 ((a1.add (s.2.1.toNat * 3)).add 2) fun t21_2 =>
          New h1 (.cells #[.string t21_0, .string t21_1, .bool t21_2] t_api_Pair) fun b h3 =>
          RunK A P (Builtin.append_ #[t_sl_api_Pair, t_sl_api_Pair] t_sl_api_Pair #[.slice s.1.p s.1.len s.1.cap, .slice (some (⟨b, 0, none⟩ : Addr)) 1 1]) h3 fun v h4 => ∃ t23 : Sl, v = .slice t23.p t23.len t23.cap ∧ (
          K1 ((⟨t23.p, t23.len, t23.cap⟩ : Sl), ()) h4)) (
          K1 ((⟨s.1.p, s.1.len, s.1.cap⟩ : Sl), ()) h1)) (
      R (.slice s.1.p s.1.len s.1.cap) h1)) ((⟨none, 0, 0⟩ : Sl), 0, ()) h

def a_wherryref08_Live : Ann := .seq .none (.seq .none (.seq (.seq .none (.block (.loop [(3, .one .sl), (4, .one (.int .i64))] [0] (.seq (.seq .none (.cond .none .none)) (.seq (.blockJ [(3, .one .sl)] [0, 4] (.seq .none (.cond .none .none))) .none))))) (.seq .none .none)))

theorem e_wherryref08_Live (A : Amb) (l : Sl) (h : Heap) (R : Value → Heap → Prop) : F_wherryref08_Live A l h R = semFun A P f_wherryref08_Live a_wherryref08_Live [.slice l.p l.len l.cap] h R := by kernel_rfl
theorem ok_wherryref08_Live {A : Amb} {l : Sl} {h : Heap} {R : Value → Heap → Prop} (H : F_wherryref08_Live A l h R) : HCalls A P f_wherryref08_Live #[.slice l.p l.len l.cap] h R :=
  semFun_sound mixed (e_wherryref08_Live A l h R ▸ H)

/-- wherry/wherrylaw05.awake -/
def F_wherrylaw05_awake (A : Amb) (h : Heap) (R : Value → Heap → Prop) : Prop :=
  HCalls A P f_mem_New #[] h fun v h1 => ∃ t6 : Option Addr, v = .pointer t6 ∧ (
  HCalls A P f_mem_Table_Put #[.pointer t6, .agg #[.string (⟨#[98]⟩ : ByteArray), .string (⟨#[49]⟩ : ByteArray), .bool false]] h1 fun v1 h2 => ∃ t9 : Int, v1 = .int .i64 t9 ∧ (
  HCalls A P f_mem_Table_Put #[.pointer t6, .agg #[.string (⟨#[97]⟩ : ByteArray), .string (⟨#[50]⟩ : ByteArray), .bool false]] h2 fun v2 h3 => ∃ t12 : Int, v2 = .int .i64 t12 ∧ (
  HCalls A P f_mem_Table_From #[.pointer t6, .string (⟨#[]⟩ : ByteArray)] h3 fun v3 h4 => ∃ t14 : Value, v3 = t14 ∧ (
  Chk (isFn t14) <|
  PIf ((isNilF t14)) (
    R (.bool false) h4) (
    HCalls A P f_slices_Collect_of_api_Pair #[t14] h4 fun v4 h5 => ∃ t18 : Sl, v4 = .slice t18.p t18.len t18.cap ∧ (
    PIf (t9 == (0 : Int)) (
      PIf (t12 == (0 : Int)) (
        PIf (((t18.len : Nat) : Int) == (2 : Int)) (
          Idx t18.p t18.len 0 fun a =>
          LoadS h5 (a.add ((0 : Int).toNat * 3)) fun t34 =>
          PIf (sEq t34 (⟨#[97]⟩ : ByteArray)) (
            HCalls A P f_mem_Table_Put #[.pointer t6, .agg #[.string (⟨#[]⟩ : ByteArray), .string (⟨#[]⟩ : ByteArray), .bool false]] h5 fun v5 h6 => ∃ t40 : Int, v5 = .int .i64 t40 ∧ (
            R (.bool (t40 == (1 : Int))) h6)) (
            R (.bool false) h5)) (
          R (.bool false) h5)) (
        R (.bool false) h5)) (
      R (.bool false) h5)))))))

def a_wherrylaw05_awake : Ann := .seq .none (.seq .none (.seq .none (.seq .none (.seq (.seq .none (.cond (.seq .none .none) .none)) (.seq .none (.seq .none .none))))))

theorem e_wherrylaw05_awake (A : Amb) (h : Heap) (R : Value → Heap → Prop) : F_wherrylaw05_awake A h R = semFun A P f_wherrylaw05_awake a_wherrylaw05_awake [] h R := by kernel_rfl
theorem ok_wherrylaw05_awake {A : Amb} {h : Heap} {R : Value → Heap → Prop} (H : F_wherrylaw05_awake A h R) : HCalls A P f_wherrylaw05_awake #[] h R :=
  semFun_sound mixed (e_wherrylaw05_awake A h R ▸ H)

/-- wherry/mem.New -/
def F_mem_New (A : Amb) (h : Heap) (R : Value → Heap → Prop) : Prop :=
  New h (.cells #[.string (⟨#[]⟩ : ByteArray), .string (⟨#[]⟩ : ByteArray), .bool false, .pointer none, .pointer none, .pointer none, .pointer none, .pointer none, .pointer none, .pointer none, .pointer none, .pointer none, .pointer none, .pointer none, .pointer none, .int .i64 0, .int .i64 0] t_mem_Table) fun b h1 =>
  R (.pointer (some (⟨b, 0, none⟩ : Addr))) h1

def a_mem_New : Ann := .seq .none (.seq .none .none)

theorem e_mem_New (A : Amb) (h : Heap) (R : Value → Heap → Prop) : F_mem_New A h R = semFun A P f_mem_New a_mem_New [] h R := by kernel_rfl
theorem ok_mem_New {A : Amb} {h : Heap} {R : Value → Heap → Prop} (H : F_mem_New A h R) : HCalls A P f_mem_New #[] h R :=
  semFun_sound mixed (e_mem_New A h R ▸ H)

/-- (*wherry/mem.Table).Put -/
def F_mem_Table_Put (A : Amb) (t : Option Addr) (p_0 : ByteArray) (p_1 : ByteArray) (p_2 : Bool) (h : Heap) (R : Value → Heap → Prop) : Prop :=
  New h (.cells #[.string p_0, .string p_1, .bool p_2] t_api_Pair) fun b h1 =>
  Join (fun (r : Bool × Unit) h2 =>
      PIf r.1 (
        R (.int .i64 1) h2) (
        Join (fun (r1 : Bool × Unit) h3 =>
            PIf r1.1 (
              R (.int .i64 2) h3) (
              LoadS h3 (⟨b, 0, none⟩ : Addr) fun t37 =>
              HCalls A P f_mem_Table_before #[.pointer t, .string t37] h3 fun v h4 => ∃ t38_0 : Option Addr, ∃ t38_1 : Option Addr, ∃ t38_2 : Option Addr, ∃ t38_3 : Option Addr, ∃ t38_4 : Option Addr, ∃ t38_5 : Option Addr, ∃ t38_6 : Option Addr, ∃ t38_7 : Option Addr, ∃ t38_8 : Option Addr, ∃ t38_9 : Option Addr, ∃ t38_10 : Option Addr, ∃ t38_11 : Option Addr, v = .agg #[.pointer t38_0, .pointer t38_1, .pointer t38_2, .pointer t38_3, .pointer t38_4, .pointer t38_5, .pointer t38_6, .pointer t38_7, .pointer t38_8, .pointer t38_9, .pointer t38_10, .pointer t38_11] ∧ (
              New h4 (.cells #[.pointer none, .pointer none, .pointer none, .pointer none, .pointer none, .pointer none, .pointer none, .pointer none, .pointer none, .pointer none, .pointer none, .pointer none] t_12_p_mem_node) fun b1 h5 =>
              Store h5 (⟨b1, 0, none⟩ : Addr) (.pointer t38_0) fun h6 =>
              Store h6 ((⟨b1, 0, none⟩ : Addr).add 1) (.pointer t38_1) fun h7 =>
              Store h7 ((⟨b1, 0, none⟩ : Addr).add 2) (.pointer t38_2) fun h8 =>
              Store h8 ((⟨b1, 0, none⟩ : Addr).add 3) (.pointer t38_3) fun h9 =>
              Store h9 ((⟨b1, 0, none⟩ : Addr).add 4) (.pointer t38_4) fun h10 =>
              Store h10 ((⟨b1, 0, none⟩ : Addr).add 5) (.pointer t38_5) fun h11 =>
              Store h11 ((⟨b1, 0, none⟩ : Addr).add 6) (.pointer t38_6) fun h12 =>
              Store h12 ((⟨b1, 0, none⟩ : Addr).add 7) (.pointer t38_7) fun h13 =>
              Store h13 ((⟨b1, 0, none⟩ : Addr).add 8) (.pointer t38_8) fun h14 =>
              Store h14 ((⟨b1, 0, none⟩ : Addr).add 9) (.pointer t38_9) fun h15 =>
              Store h15 ((⟨b1, 0, none⟩ : Addr).add 10) (.pointer t38_10) fun h16 =>
              Store h16 ((⟨b1, 0, none⟩ : Addr).add 11) (.pointer t38_11) fun h17 =>
              Chk ((0 : Int) ≤ 0 ∧ 0 < (12 : Int)) <|
              LoadP h17 ((⟨b1, 0, none⟩ : Addr).add ((0 : Int).toNat * 1)) fun t40 =>
              At t40 fun a =>
              Chk ((0 : Int) ≤ 0 ∧ 0 < (12 : Int)) <|
              LoadP h17 ((a.add 3).add ((0 : Int).toNat * 1)) fun t44 =>
              Join (fun (r2 : Bool × Unit) h18 =>
                  PIf r2.1 (
                    At t fun a1 =>
                    LoadI .i64 h18 (a1.add 16) fun t60 =>
                    LoadS h18 ((⟨b, 0, none⟩ : Addr).add 1) fun t62 =>
                    At t44 fun a2 =>
                    LoadS h18 (a2.add 1) fun t68 =>
                    At t fun a3 =>
                    Store h18 (a3.add 16) (.int .i64 (IntKind.wrap .i64 (t60 + (IntKind.wrap .i64 ((t62.size : Int) - (t68.size : Int)))))) fun h19 =>
                    LoadS h19 (⟨b, 0, none⟩ : Addr) fun t75_0 =>
                    LoadS h19 ((⟨b, 0, none⟩ : Addr).add 1) fun t75_1 =>
                    LoadB h19 ((⟨b, 0, none⟩ : Addr).add 2) fun t75_2 =>
                    At t44 fun a4 =>
                    Store h19 a4 (.string t75_0) fun h20 =>
                    Store h20 (a4.add 1) (.string t75_1) fun h21 =>
                    Store h21 (a4.add 2) (.bool t75_2) fun h22 =>
                    R (.int .i64 0) h22) (
                    LoadS h18 (⟨b, 0, none⟩ : Addr) fun t78_0 =>
                    LoadS h18 ((⟨b, 0, none⟩ : Addr).add 1) fun t78_1 =>
                    LoadB h18 ((⟨b, 0, none⟩ : Addr).add 2) fun t78_2 =>
                    New h18 (.cells #[.string t78_0, .string t78_1, .bool t78_2, .pointer none, .pointer none, .pointer none, .pointer none, .pointer none, .pointer none, .pointer none, .pointer none, .pointer none, .pointer none, .pointer none, .pointer none] t_mem_node) fun b2 h23 =>
                    LoadS h23 (⟨b, 0, none⟩ : Addr) fun t82 =>
                    HCalls A P f_mem_height #[.string t82] h23 fun v1 h24 => ∃ t83 : Int, v1 = .int .i64 t83 ∧ (
                    Loop (fun K3 (s : Int × Unit) h25 =>
                      PIf (decide (s.1 < t83)) (
                        Chk ((0 : Int) ≤ s.1 ∧ s.1 < (12 : Int)) <|
                        LoadP h25 ((⟨b1, 0, none⟩ : Addr).add ((s.1 : Int).toNat * 1)) fun t91 =>
                        At t91 fun a5 =>
                        Chk ((0 : Int) ≤ s.1 ∧ s.1 < (12 : Int)) <|
                        LoadP h25 ((a5.add 3).add ((s.1 : Int).toNat * 1)) fun t96 =>
                        Chk ((0 : Int) ≤ s.1 ∧ s.1 < (12 : Int)) <|
                        Store h25 (((⟨b2, 0, none⟩ : Addr).add 3).add ((s.1 : Int).toNat * 1)) (.pointer t96) fun h26 =>
                        Chk ((0 : Int) ≤ s.1 ∧ s.1 < (12 : Int)) <|
                        LoadP h26 ((⟨b1, 0, none⟩ : Addr).add ((s.1 : Int).toNat * 1)) fun t102 =>
                        At t102 fun a6 =>
                        Chk ((0 : Int) ≤ s.1 ∧ s.1 < (12 : Int)) <|
                        Store h26 ((a6.add 3).add ((s.1 : Int).toNat * 1)) (.pointer (some (⟨b2, 0, none⟩ : Addr))) fun h27 =>
                        K3 ((IntKind.wrap .i64 (s.1 + (1 : Int))), ()) h27) (
                        At t fun a7 =>
                        LoadI .i64 h25 (a7.add 15) fun t112 =>
                        At t fun a8 =>
                        Store h25 (a8.add 15) (.int .i64 (IntKind.wrap .i64 (t112 + (1 : Int)))) fun h28 =>
                        At t fun a9 =>
                        LoadI .i64 h28 (a9.add 16) fun t119 =>
                        LoadS h28 (⟨b, 0, none⟩ : Addr) fun t121 =>
                        LoadS h28 ((⟨b, 0, none⟩ : Addr).add 1) fun t124 =>
                        At t fun a10 =>
                        Store h28 (a10.add 16) (.int .i64 (IntKind.wrap .i64 (t119 + (IntKind.wrap .i64 ((t121.size : Int) + (t124.size : Int)))))) fun h29 =>
                        R (.int .i64 0) h29)) (0, ()) h24))) fun K2 =>
                PIf (!t44.isNone) (
                  At t44 fun a11 =>
                  LoadS h17 a11 fun t52 =>
                  LoadS h17 (⟨b, 0, none⟩ : Addr) fun t54 =>
                  K2 ((sEq t52 t54), ()) h17) (
                  K2 (false, ()) h17)))) fun K1 =>
          LoadS h2 (⟨b, 0, none⟩ : Addr) fun t26 =>
          PIf (decide ((t26.size : Int) > (64 : Int))) (
            K1 (true, ()) h2) (
            LoadS h2 ((⟨b, 0, none⟩ : Addr).add 1) fun t31 =>
            K1 ((decide ((t31.size : Int) > (8192 : Int))), ()) h2))) fun K =>
    PIf (t.isNone) (
      K (true, ()) h1) (
      LoadS h1 (⟨b, 0, none⟩ : Addr) fun t13 =>
      PIf (sEq t13 (⟨#[]⟩ : ByteArray)) (
        K (true, ()) h1) (
        LoadB h1 ((⟨b, 0, none⟩ : Addr).add 2) fun t18 =>
        PIf t18 (
          LoadS h1 ((⟨b, 0, none⟩ : Addr).add 1) fun t21 =>
          K ((!sEq t21 (⟨#[]⟩ : ByteArray)), ()) h1) (
          K (false, ()) h1)))

def a_mem_Table_Put : Ann := .seq .none (.seq (.seq (.reg [(24, .one .bool)] [0, 3]) (.cond (.seq .none .none) .none)) (.seq (.seq (.reg [(34, .one .bool)] [0, 3]) (.cond (.seq .none .none) .none)) (.seq .none (.seq (.seq .none (.seq (.reg [(56, .one .bool)] [0, 3, 5, 6]) (.cond (.seq .none (.seq .none (.seq .none .none))) .none))) (.seq .none (.seq (.seq .none (.block (.loop [(84, .one (.int .i64))] [0, 3, 5, 7, 83] (.seq .none (.seq (.cond .none .none) (.seq (.block (.seq .none (.seq .none .none))) .none)))))) (.seq .none (.seq .none (.seq .none .none)))))))))

theorem e_mem_Table_Put (A : Amb) (t : Option Addr) (p_0 : ByteArray) (p_1 : ByteArray) (p_2 : Bool) (h : Heap) (R : Value → Heap → Prop) : F_mem_Table_Put A t p_0 p_1 p_2 h R = semFun A P f_mem_Table_Put a_mem_Table_Put [.pointer t, .agg #[.string p_0, .string p_1, .bool p_2]] h R := by kernel_rfl
theorem ok_mem_Table_Put {A : Amb} {t : Option Addr} {p_0 : ByteArray} {p_1 : ByteArray} {p_2 : Bool} {h : Heap} {R : Value → Heap → Prop} (H : F_mem_Table_Put A t p_0 p_1 p_2 h R) : HCalls A P f_mem_Table_Put #[.pointer t, .agg #[.string p_0, .string p_1, .bool p_2]] h R :=
  semFun_sound mixed (e_mem_Table_Put A t p_0 p_1 p_2 h R ▸ H)

/-- (*wherry/mem.Table).From -/
def F_mem_Table_From (A : Amb) (t : Option Addr) (key : ByteArray) (h : Heap) (R : Value → Heap → Prop) : Prop :=
  New h (.cells #[.pointer t] t_p_mem_Table) fun b h1 =>
  New h1 (.cells #[.string key] t_string) fun b1 h2 =>
  R ((.func (.func f_mem_Table_From_1) #[] #[.pointer (some (⟨b, 0, none⟩ : Addr)), .pointer (some (⟨b1, 0, none⟩ : Addr))])) h2

def a_mem_Table_From : Ann := .seq .none (.seq .none .none)

theorem e_mem_Table_From (A : Amb) (t : Option Addr) (key : ByteArray) (h : Heap) (R : Value → Heap → Prop) : F_mem_Table_From A t key h R = semFun A P f_mem_Table_From a_mem_Table_From [.pointer t, .string key] h R := by kernel_rfl
theorem ok_mem_Table_From {A : Amb} {t : Option Addr} {key : ByteArray} {h : Heap} {R : Value → Heap → Prop} (H : F_mem_Table_From A t key h R) : HCalls A P f_mem_Table_From #[.pointer t, .string key] h R :=
  semFun_sound mixed (e_mem_Table_From A t key h R ▸ H)

/-- (*wherry/mem.Table).Len -/
def F_mem_Table_Len (A : Amb) (t : Option Addr) (h : Heap) (R : Value → Heap → Prop) : Prop :=
  PIf (t.isNone) (
    R (.tuple #[.int .i64 0, .int .i64 0]) h) (
    At t fun a =>
    LoadI .i64 h (a.add 15) fun t9 =>
    At t fun a1 =>
    LoadI .i64 h (a1.add 16) fun t13 =>
    R (.tuple #[.int .i64 t9, .int .i64 t13]) h)

def a_mem_Table_Len : Ann := .seq .none (.seq (.seq .none (.cond (.seq .none .none) .none)) (.seq .none .none))

theorem e_mem_Table_Len (A : Amb) (t : Option Addr) (h : Heap) (R : Value → Heap → Prop) : F_mem_Table_Len A t h R = semFun A P f_mem_Table_Len a_mem_Table_Len [.pointer t] h R := by kernel_rfl
theorem ok_mem_Table_Len {A : Amb} {t : Option Addr} {h : Heap} {R : Value → Heap → Prop} (H : F_mem_Table_Len A t h R) : HCalls A P f_mem_Table_Len #[.pointer t] h R :=
  semFun_sound mixed (e_mem_Table_Len A t h R ▸ H)

/-- slices.Values[[]wherry/api.Pair,wherry/api.Pair] -/
def F_slices_Values_of___api_Pair_api_Pair (A : Amb) (s : Sl) (h : Heap) (R : Value → Heap → Prop) : Prop :=
  New h (.cells #[.slice s.p s.len s.cap] t_sl_api_Pair) fun b h1 =>
  R ((.func (.func f_slices_Values_of___api_Pair_api_Pair_1) #[] #[.pointer (some (⟨b, 0, none⟩ : Addr))])) h1

def a_slices_Values_of___api_Pair_api_Pair : Ann := .seq .none (.seq .none .none)

theorem e_slices_Values_of___api_Pair_api_Pair (A : Amb) (s : Sl) (h : Heap) (R : Value → Heap → Prop) : F_slices_Values_of___api_Pair_api_Pair A s h R = semFun A P f_slices_Values_of___api_Pair_api_Pair a_slices_Values_of___api_Pair_api_Pair [.slice s.p s.len s.cap] h R := by kernel_rfl
theorem ok_slices_Values_of___api_Pair_api_Pair {A : Amb} {s : Sl} {h : Heap} {R : Value → Heap → Prop} (H : F_slices_Values_of___api_Pair_api_Pair A s h R) : HCalls A P f_slices_Values_of___api_Pair_api_Pair #[.slice s.p s.len s.cap] h R :=
  semFun_sound mixed (e_slices_Values_of___api_Pair_api_Pair A s h R ▸ H)

/-- wherry/merge.Some -/
def F_merge_Some (A : Amb) (s : Value) (vto : ByteArray) (most : Int) (h : Heap) (R : Value → Heap → Prop) : Prop :=
  New h (.cells #[.string vto] t_string) fun b h1 =>
  New h1 (.cells #[.int .i64 most] t_int) fun b1 h2 =>
  New h2 (.cells #[.slice none 0 0] t_sl_api_Pair) fun b2 h3 =>
  Join (fun (r : Bool × Unit) h4 =>
      PIf r.1 (
        R (.slice none 0 0) h4) (
        RangeK A P s [.agg [.str, .str, .bool]] (fun (args : (ByteArray × ByteArray × Bool × Unit) × Unit) l h5 kn kj =>
            New h5 (.cells #[.string (⟨#[]⟩ : ByteArray), .string (⟨#[]⟩ : ByteArray), .bool false] t_api_Pair) fun b3 h7 =>
            Store h7 (⟨b3, 0, none⟩ : Addr) (.string args.1.1) fun h8 =>
            Store h8 ((⟨b3, 0, none⟩ : Addr).add 1) (.string args.1.2.1) fun h9 =>
            Store h9 ((⟨b3, 0, none⟩ : Addr).add 2) (.bool args.1.2.2.1) fun h10 =>
            ∃ vrec : Go.Loop, h10[l]? = some (.loop vrec) ∧ vrec.state = .ready ∧ (
              Join (fun (r1 : Bool × Unit) h11 =>
                  PIf r1.1 (
                    kj (some 0) h11) (
                    LoadL h11 (⟨b2, 0, none⟩ : Addr) fun t25 =>
                    LoadS h11 (⟨b3, 0, none⟩ : Addr) fun t26_0 =>
                    LoadS h11 ((⟨b3, 0, none⟩ : Addr).add 1) fun t26_1 =>
                    LoadB h11 ((⟨b3, 0, none⟩ : Addr).add 2) fun t26_2 =>
                    New h11 (.cells #[.string t26_0, .string t26_1, .bool t26_2] t_api_Pair) fun b4 h12 =>
                    RunK A P (Builtin.append_ #[t_sl_api_Pair, t_sl_api_Pair] t_sl_api_Pair #[.slice t25.p t25.len t25.cap, .slice (some (⟨b4, 0, none⟩ : Addr)) 1 1]) h12 fun v h13 => ∃ t28 : Sl, v = .slice t28.p t28.len t28.cap ∧ (
                    Store h13 (⟨b2, 0, none⟩ : Addr) (.slice t28.p t28.len t28.cap) fun h14 =>
                    LoadL h14 (⟨b2, 0, none⟩ : Addr) fun t29 =>
                    LoadI .i64 h14 (⟨b1, 0, none⟩ : Addr) fun t31 =>
                    PIf (((t29.len : Nat) : Int) == t31) (
                      kj (some 0) h14) (
                      kn h14)))) fun K1 =>
                LoadS (h10.setIfInBounds l (.loop { vrec with state := .busy })) (⟨b, 0, none⟩ : Addr) fun t17 =>
                PIf (!sEq t17 (⟨#[]⟩ : ByteArray)) (
                  LoadS (h10.setIfInBounds l (.loop { vrec with state := .busy })) (⟨b3, 0, none⟩ : Addr) fun t21 =>
                  LoadS (h10.setIfInBounds l (.loop { vrec with state := .busy })) (⟨b, 0, none⟩ : Addr) fun t22 =>
                  K1 ((!sLt t21 t22), ()) (h10.setIfInBounds l (.loop { vrec with state := .busy }))) (
                  K1 (false, ()) (h10.setIfInBounds l (.loop { vrec with state := .busy }))))) h4 (fun h15 =>
            LoadL h15 (⟨b2, 0, none⟩ : Addr) fun t33 =>
            h15[h4.size]? = some (.deferred (some [])) ∧ (
            R (.slice t33.p t33.len t33.cap) (h15.setIfInBounds h4.size (.deferred none)))) (fun j h16 =>
          (match j with
 | none => (
              h16[h4.size]? = some (.deferred (some [])) ∧ (
              R (.slice none 0 0) (h16.setIfInBounds h4.size (.deferred none))))
 | some i => (match Nat.beq i 0 with
 | true => (
              LoadL h16 (⟨b2, 0, none⟩ : Addr) fun t33_1 =>
              h16[h4.size]? = some (.deferred (some [])) ∧ (
              R (.slice t33_1.p t33_1.len t33_1.cap) (h16.setIfInBounds h4.size (.deferred none))))
 | false => False))))) fun K =>
    Chk (isFn s) <|
    PIf ((isNilF s)) (
      K (true, ()) h3) (
      LoadI .i64 h3 (⟨b1, 0, none⟩ : Addr) fun t12 =>
      K ((decide (t12 ≤ (0 : Int))), ()) h3)

def a_merge_Some : Ann := .seq .none (.seq .none (.seq (.seq (.reg [(14, .one .bool)] [0, 4, 5, 6, 7]) (.cond (.seq .none .none) .none)) (.seq (.seq .none (.block (.range [.agg [.str, .str, .bool]] .none (.block (.seq (.seq (.reg [(24, .one .bool)] [5, 7, 8]) (.cond .none .none)) (.seq .none (.seq .none (.cond .none .none)))))))) (.seq .none .none))))

theorem e_merge_Some (A : Amb) (s : Value) (vto : ByteArray) (most : Int) (h : Heap) (R : Value → Heap → Prop) : F_merge_Some A s vto most h R = semFun A P f_merge_Some a_merge_Some [s, .string vto, .int .i64 most] h R := by kernel_rfl
theorem ok_merge_Some {A : Amb} {s : Value} {vto : ByteArray} {most : Int} {h : Heap} {R : Value → Heap → Prop} (H : F_merge_Some A s vto most h R) : HCalls A P f_merge_Some #[s, .string vto, .int .i64 most] h R :=
  semFun_sound mixed (e_merge_Some A s vto most h R ▸ H)

/-- wherry/wherryref08.Some -/
def F_wherryref08_Some (A : Amb) (l : Sl) (vto : ByteArray) (most : Int) (h : Heap) (R : Value → Heap → Prop) : Prop :=
  Loop (fun K (s : Sl × Int × Unit) h1 =>
    Join (fun (r : Bool × Unit) h2 =>
        PIf r.1 (
          Idx l.p l.len s.2.1 fun a =>
          LoadS h2 (a.add (s.2.1.toNat * 3)) fun t38_0 =>
          LoadS h2 ((a.add (s.2.1.toNat * 3)).add 1) fun t38_1 =>
          LoadB h2 ((a.add (s.2.1.toNat * 3)).add 2) fun t38_2 =>
          New h2 (.cells #[.string t38_0, .string t38_1, .bool t38_2] t_api_Pair) fun b h3 =>
          RunK A P (Builtin.append_ #[t_sl_api_Pair, t_sl_api_Pair] t_sl_api_Pair #[.slice s.1.p s.1.len s.1.cap, .slice (some (⟨b, 0, none⟩ : Addr)) 1 1]) h3 fun v h4 => ∃ t40 : Sl, v = .slice t40.p t40.len t40.cap ∧ (
          K ((⟨t40.p, t40.len, t40.cap⟩ : Sl), (IntKind.wrap .i64 (s.2.1 + (1 : Int))), ()) h4)) (
          R (.slice s.1.p s.1.len s.1.cap) h2)) fun K1 =>
      PIf (decide (s.2.1 < ((l.len : Nat) : Int))) (
        PIf (decide (((s.1.len : Nat) : Int) < most)) (
          PIf (sEq vto (⟨#[]⟩ : ByteArray)) (
            K1 (true, ()) h1) (
            Idx l.p l.len s.2.1 fun a1 =>
            LoadS h1 (a1.add (s.2.1.toNat * 3)) fun t27 =>
            K1 ((sLt t27 vto), ()) h1)) (
          K1 (false, ()) h1)) (
        K1 (false, ()) h1)) ((⟨none, 0, 0⟩ : Sl), 0, ()) h

def a_wherryref08_Some : Ann := .seq .none (.seq .none (.seq (.seq .none (.block (.loop [(7, .one .sl), (8, .one (.int .i64))] [0, 1, 2] (.seq (.seq (.reg [(31, .one .bool)] [0, 1, 2, 7, 8]) (.cond .none .none)) (.seq (.block .none) .none))))) (.seq .none .none)))

theorem e_wherryref08_Some (A : Amb) (l : Sl) (vto : ByteArray) (most : Int) (h : Heap) (R : Value → Heap → Prop) : F_wherryref08_Some A l vto most h R = semFun A P f_wherryref08_Some a_wherryref08_Some [.slice l.p l.len l.cap, .string vto, .int .i64 most] h R := by kernel_rfl
theorem ok_wherryref08_Some {A : Amb} {l : Sl} {vto : ByteArray} {most : Int} {h : Heap} {R : Value → Heap → Prop} (H : F_wherryref08_Some A l vto most h R) : HCalls A P f_wherryref08_Some #[.slice l.p l.len l.cap, .string vto, .int .i64 most] h R :=
  semFun_sound mixed (e_wherryref08_Some A l vto most h R ▸ H)

/-- (*wherry/wherryref05.Table).Put -/
def F_wherryref05_Table_Put (A : Amb) (t : Option Addr) (p_0 : ByteArray) (p_1 : ByteArray) (p_2 : Bool) (h : Heap) (R : Value → Heap → Prop) : Prop :=
  New h (.cells #[.string p_0, .string p_1, .bool p_2] t_api_Pair) fun b h1 =>
  LoadS h1 (⟨b, 0, none⟩ : Addr) fun t9_0 =>
  LoadS h1 ((⟨b, 0, none⟩ : Addr).add 1) fun t9_1 =>
  LoadB h1 ((⟨b, 0, none⟩ : Addr).add 2) fun t9_2 =>
  HCalls A P f_wherryref05_Wrong #[.agg #[.string t9_0, .string t9_1, .bool t9_2]] h1 fun v h2 => ∃ t10 : Int, v = .int .i64 t10 ∧ (
  PIf (t10 != (0 : Int)) (
    R (.int .i64 t10) h2) (
    LoadS h2 (⟨b, 0, none⟩ : Addr) fun t17 =>
    HCalls A P f_wherryref05_Table_at #[.pointer t, .string t17] h2 fun v1 h3 => ∃ t18a : Int, ∃ t18b : Bool, v1 = .tuple #[.int .i64 t18a, .bool t18b] ∧ (
    At t fun a =>
    LoadL h3 a fun t24 =>
    Chk ((0 : Int) ≤ t18a ∧ t18a ≤ ((t24.cap : Nat) : Int)) <|
    RunK A P (Builtin.append_ #[t_sl_api_Pair, t_sl_api_Pair] t_sl_api_Pair #[.slice none 0 0, .slice (slOff t24.p t24.cap 0 3) (t18a.toNat - 0) (t24.cap - 0)]) h3 fun v2 h4 => ∃ t27 : Sl, v2 = .slice t27.p t27.len t27.cap ∧ (
    LoadS h4 (⟨b, 0, none⟩ : Addr) fun t29_0 =>
    LoadS h4 ((⟨b, 0, none⟩ : Addr).add 1) fun t29_1 =>
    LoadB h4 ((⟨b, 0, none⟩ : Addr).add 2) fun t29_2 =>
    New h4 (.cells #[.string t29_0, .string t29_1, .bool t29_2] t_api_Pair) fun b1 h5 =>
    RunK A P (Builtin.append_ #[t_sl_api_Pair, t_sl_api_Pair] t_sl_api_Pair #[.slice t27.p t27.len t27.cap, .slice (some (⟨b1, 0, none⟩ : Addr)) 1 1]) h5 fun v3 h6 => ∃ t31 : Sl, v3 = .slice t31.p t31.len t31.cap ∧ (
    Join (fun (s : Int × Unit) h7 =>
        At t fun a1 =>
        LoadL h7 a1 fun t40 =>
        Chk ((0 : Int) ≤ s.1 ∧ s.1 ≤ ((t40.len : Nat) : Int)) <|
        RunK A P (Builtin.append_ #[t_sl_api_Pair, t_sl_api_Pair] t_sl_api_Pair #[.slice t31.p t31.len t31.cap, .slice (slOff t40.p t40.cap s.1.toNat 3) (t40.len - s.1.toNat) (t40.cap - s.1.toNat)]) h7 fun v4 h8 => ∃ t43 : Sl, v4 = .slice t43.p t43.len t43.cap ∧ (
        At t fun a2 =>
        Store h8 a2 (.slice t43.p t43.len t43.cap) fun h9 =>
        R (.int .i64 0) h9)) fun K =>
      PIf t18b (
        K ((IntKind.wrap .i64 (t18a + (1 : Int))), ()) h6) (
        K (t18a, ()) h6))))))

def a_wherryref05_Table_Put : Ann := .seq .none (.seq .none (.seq (.seq .none (.cond (.seq .none .none) .none)) (.seq .none (.seq .none (.seq .none (.seqJ [(6, .one (.int .i64))] [0, 8] (.seq .none (.cond .none .none)) (.seq .none (.seq .none .none))))))))

theorem e_wherryref05_Table_Put (A : Amb) (t : Option Addr) (p_0 : ByteArray) (p_1 : ByteArray) (p_2 : Bool) (h : Heap) (R : Value → Heap → Prop) : F_wherryref05_Table_Put A t p_0 p_1 p_2 h R = semFun A P f_wherryref05_Table_Put a_wherryref05_Table_Put [.pointer t, .agg #[.string p_0, .string p_1, .bool p_2]] h R := by kernel_rfl
theorem ok_wherryref05_Table_Put {A : Amb} {t : Option Addr} {p_0 : ByteArray} {p_1 : ByteArray} {p_2 : Bool} {h : Heap} {R : Value → Heap → Prop} (H : F_wherryref05_Table_Put A t p_0 p_1 p_2 h R) : HCalls A P f_wherryref05_Table_Put #[.pointer t, .agg #[.string p_0, .string p_1, .bool p_2]] h R :=
  semFun_sound mixed (e_wherryref05_Table_Put A t p_0 p_1 p_2 h R ▸ H)

/-- (*wherry/wherryref05.Table).Len -/
def F_wherryref05_Table_Len (A : Amb) (t : Option Addr) (h : Heap) (R : Value → Heap → Prop) : Prop :=
  Loop (fun K (s : Int × Int × Unit) h1 =>
    At t fun a =>
    LoadL h1 a fun t10 =>
    PIf (decide (s.2.1 < ((t10.len : Nat) : Int))) (
      At t fun a1 =>
      LoadL h1 a1 fun t19 =>
      Idx t19.p t19.len s.2.1 fun a2 =>
      LoadS h1 (a2.add (s.2.1.toNat * 3)) fun t23 =>
      At t fun a3 =>
      LoadL h1 a3 fun t28 =>
      Idx t28.p t28.len s.2.1 fun a4 =>
      LoadS h1 ((a4.add (s.2.1.toNat * 3)).add 1) fun t32 =>
      K ((IntKind.wrap .i64 (s.1 + (IntKind.wrap .i64 ((t23.size : Int) + (t32.size : Int))))), (IntKind.wrap .i64 (s.2.1 + (1 : Int))), ()) h1) (
      At t fun a5 =>
      LoadL h1 a5 fun t39 =>
      R (.tuple #[.int .i64 ((t39.len : Nat) : Int), .int .i64 s.1]) h1)) (0, 0, ()) h

def a_wherryref05_Table_Len : Ann := .seq .none (.seq .none (.seq (.seq .none (.block (.loop [(4, .one (.int .i64)), (5, .one (.int .i64))] [0] (.seq (.seq .none (.cond .none .none)) (.seq (.block .none) .none))))) (.seq .none .none)))

theorem e_wherryref05_Table_Len (A : Amb) (t : Option Addr) (h : Heap) (R : Value → Heap → Prop) : F_wherryref05_Table_Len A t h R = semFun A P f_wherryref05_Table_Len a_wherryref05_Table_Len [.pointer t] h R := by kernel_rfl
theorem ok_wherryref05_Table_Len {A : Amb} {t : Option Addr} {h : Heap} {R : Value → Heap → Prop} (H : F_wherryref05_Table_Len A t h R) : HCalls A P f_wherryref05_Table_Len #[.pointer t] h R :=
  semFun_sound mixed (e_wherryref05_Table_Len A t h R ▸ H)

/-- (*wherry/mem.Table).Get -/
def F_mem_Table_Get (A : Amb) (t : Option Addr) (key : ByteArray) (h : Heap) (R : Value → Heap → Prop) : Prop :=
  New h (.cells #[.string (⟨#[]⟩ : ByteArray), .string (⟨#[]⟩ : ByteArray), .bool false] t_api_Pair) fun b h1 =>
  PIf (t.isNone) (
    Store h1 (⟨b, 0, none⟩ : Addr) (.string (⟨#[]⟩ : ByteArray)) fun h2 =>
    Store h2 ((⟨b, 0, none⟩ : Addr).add 1) (.string (⟨#[]⟩ : ByteArray)) fun h3 =>
    Store h3 ((⟨b, 0, none⟩ : Addr).add 2) (.bool false) fun h4 =>
    LoadS h4 (⟨b, 0, none⟩ : Addr) fun res_0 =>
    LoadS h4 ((⟨b, 0, none⟩ : Addr).add 1) fun res_1 =>
    LoadB h4 ((⟨b, 0, none⟩ : Addr).add 2) fun res_2 =>
    R (.tuple #[.agg #[.string res_0, .string res_1, .bool res_2], .bool false]) h4) (
    HCalls A P f_mem_Table_before #[.pointer t, .string key] h1 fun v h5 => ∃ t12_0 : Option Addr, ∃ t12_1 : Option Addr, ∃ t12_2 : Option Addr, ∃ t12_3 : Option Addr, ∃ t12_4 : Option Addr, ∃ t12_5 : Option Addr, ∃ t12_6 : Option Addr, ∃ t12_7 : Option Addr, ∃ t12_8 : Option Addr, ∃ t12_9 : Option Addr, ∃ t12_10 : Option Addr, ∃ t12_11 : Option Addr, v = .agg #[.pointer t12_0, .pointer t12_1, .pointer t12_2, .pointer t12_3, .pointer t12_4, .pointer t12_5, .pointer t12_6, .pointer t12_7, .pointer t12_8, .pointer t12_9, .pointer t12_10, .pointer t12_11] ∧ (
    At t12_0 fun a =>
    Chk ((0 : Int) ≤ 0 ∧ 0 < (12 : Int)) <|
    LoadP h5 ((a.add 3).add ((0 : Int).toNat * 1)) fun t17 =>
    Join (fun (r : Bool × Unit) h6 =>
        PIf r.1 (
          At t17 fun a1 =>
          LoadS h6 a1 fun t32_0 =>
          LoadS h6 (a1.add 1) fun t32_1 =>
          LoadB h6 (a1.add 2) fun t32_2 =>
          Store h6 (⟨b, 0, none⟩ : Addr) (.string t32_0) fun h7 =>
          Store h7 ((⟨b, 0, none⟩ : Addr).add 1) (.string t32_1) fun h8 =>
          Store h8 ((⟨b, 0, none⟩ : Addr).add 2) (.bool t32_2) fun h9 =>
          LoadS h9 (⟨b, 0, none⟩ : Addr) fun res_0_1 =>
          LoadS h9 ((⟨b, 0, none⟩ : Addr).add 1) fun res_1_1 =>
          LoadB h9 ((⟨b, 0, none⟩ : Addr).add 2) fun res_2_1 =>
          R (.tuple #[.agg #[.string res_0_1, .string res_1_1, .bool res_2_1], .bool true]) h9) (
          Store h6 (⟨b, 0, none⟩ : Addr) (.string (⟨#[]⟩ : ByteArray)) fun h10 =>
          Store h10 ((⟨b, 0, none⟩ : Addr).add 1) (.string (⟨#[]⟩ : ByteArray)) fun h11 =>
          Store h11 ((⟨b, 0, none⟩ : Addr).add 2) (.bool false) fun h12 =>
          LoadS h12 (⟨b, 0, none⟩ : Addr) fun res_0_2 =>
          LoadS h12 ((⟨b, 0, none⟩ : Addr).add 1) fun res_1_2 =>
          LoadB h12 ((⟨b, 0, none⟩ : Addr).add 2) fun res_2_2 =>
          R (.tuple #[.agg #[.string res_0_2, .string res_1_2, .bool res_2_2], .bool false]) h12)) fun K =>
      PIf (!t17.isNone) (
        At t17 fun a2 =>
        LoadS h5 a2 fun t25 =>
        K ((sEq t25 key), ()) h5) (
        K (false, ()) h5)))

def a_mem_Table_Get : Ann := .seq .none (.seq (.seq .none (.cond (.seq .none .none) .none)) (.seq (.seq .none (.seq (.reg [(28, .one .bool)] [4, 6]) (.cond (.seq .none .none) .none))) (.seq .none .none)))

theorem e_mem_Table_Get (A : Amb) (t : Option Addr) (key : ByteArray) (h : Heap) (R : Value → Heap → Prop) : F_mem_Table_Get A t key h R = semFun A P f_mem_Table_Get a_mem_Table_Get [.pointer t, .string key] h R := by kernel_rfl
theorem ok_mem_Table_Get {A : Amb} {t : Option Addr} {key : ByteArray} {h : Heap} {R : Value → Heap → Prop} (H : F_mem_Table_Get A t key h R) : HCalls A P f_mem_Table_Get #[.pointer t, .string key] h R :=
  semFun_sound mixed (e_mem_Table_Get A t key h R ▸ H)

/-- (*wherry/wherryref05.Table).Get -/
def F_wherryref05_Table_Get (A : Amb) (t : Option Addr) (key : ByteArray) (h : Heap) (R : Value → Heap → Prop) : Prop :=
  New h (.cells #[.string (⟨#[]⟩ : ByteArray), .string (⟨#[]⟩ : ByteArray), .bool false] t_api_Pair) fun b h1 =>
  HCalls A P f_wherryref05_Table_at #[.pointer t, .string key] h1 fun v h2 => ∃ t11a : Int, ∃ t11b : Bool, v = .tuple #[.int .i64 t11a, .bool t11b] ∧ (
  PIf (!t11b) (
    Store h2 (⟨b, 0, none⟩ : Addr) (.string (⟨#[]⟩ : ByteArray)) fun h3 =>
    Store h3 ((⟨b, 0, none⟩ : Addr).add 1) (.string (⟨#[]⟩ : ByteArray)) fun h4 =>
    Store h4 ((⟨b, 0, none⟩ : Addr).add 2) (.bool false) fun h5 =>
    LoadS h5 (⟨b, 0, none⟩ : Addr) fun res_0 =>
    LoadS h5 ((⟨b, 0, none⟩ : Addr).add 1) fun res_1 =>
    LoadB h5 ((⟨b, 0, none⟩ : Addr).add 2) fun res_2 =>
    R (.tuple #[.agg #[.string res_0, .string res_1, .bool res_2], .bool false]) h5) (
    At t fun a =>
    LoadL h2 a fun t20 =>
    Idx t20.p t20.len t11a fun a1 =>
    LoadS h2 (a1.add (t11a.toNat * 3)) fun t23_0 =>
    LoadS h2 ((a1.add (t11a.toNat * 3)).add 1) fun t23_1 =>
    LoadB h2 ((a1.add (t11a.toNat * 3)).add 2) fun t23_2 =>
    Store h2 (⟨b, 0, none⟩ : Addr) (.string t23_0) fun h6 =>
    Store h6 ((⟨b, 0, none⟩ : Addr).add 1) (.string t23_1) fun h7 =>
    Store h7 ((⟨b, 0, none⟩ : Addr).add 2) (.bool t23_2) fun h8 =>
    LoadS h8 (⟨b, 0, none⟩ : Addr) fun res_0_1 =>
    LoadS h8 ((⟨b, 0, none⟩ : Addr).add 1) fun res_1_1 =>
    LoadB h8 ((⟨b, 0, none⟩ : Addr).add 2) fun res_2_1 =>
    R (.tuple #[.agg #[.string res_0_1, .string res_1_1, .bool res_2_1], .bool true]) h8))

def a_wherryref05_Table_Get : Ann := .seq .none (.seq .none (.seq (.seq .none (.cond (.seq .none .none) .none)) (.seq .none .none)))

theorem e_wherryref05_Table_Get (A : Amb) (t : Option Addr) (key : ByteArray) (h : Heap) (R : Value → Heap → Prop) : F_wherryref05_Table_Get A t key h R = semFun A P f_wherryref05_Table_Get a_wherryref05_Table_Get [.pointer t, .string key] h R := by kernel_rfl
theorem ok_wherryref05_Table_Get {A : Amb} {t : Option Addr} {key : ByteArray} {h : Heap} {R : Value → Heap → Prop} (H : F_wherryref05_Table_Get A t key h R) : HCalls A P f_wherryref05_Table_Get #[.pointer t, .string key] h R :=
  semFun_sound mixed (e_wherryref05_Table_Get A t key h R ▸ H)

/-- (*wherry/wherryref05.Table).From -/
def F_wherryref05_Table_From (A : Amb) (t : Option Addr) (key : ByteArray) (h : Heap) (R : Value → Heap → Prop) : Prop :=
  HCalls A P f_wherryref05_Table_at #[.pointer t, .string key] h fun v h1 => ∃ t10a : Int, ∃ t10b : Bool, v = .tuple #[.int .i64 t10a, .bool t10b] ∧ (
  At t fun a =>
  LoadL h1 a fun t16 =>
  Chk ((0 : Int) ≤ t10a ∧ t10a ≤ ((t16.len : Nat) : Int)) <|
  R (.slice (slOff t16.p t16.cap t10a.toNat 3) (t16.len - t10a.toNat) (t16.cap - t10a.toNat)) h1)

def a_wherryref05_Table_From : Ann := .seq .none (.seq .none (.seq .none .none))

theorem e_wherryref05_Table_From (A : Amb) (t : Option Addr) (key : ByteArray) (h : Heap) (R : Value → Heap → Prop) : F_wherryref05_Table_From A t key h R = semFun A P f_wherryref05_Table_From a_wherryref05_Table_From [.pointer t, .string key] h R := by kernel_rfl
theorem ok_wherryref05_Table_From {A : Amb} {t : Option Addr} {key : ByteArray} {h : Heap} {R : Value → Heap → Prop} (H : F_wherryref05_Table_From A t key h R) : HCalls A P f_wherryref05_Table_From #[.pointer t, .string key] h R :=
  semFun_sound mixed (e_wherryref05_Table_From A t key h R ▸ H)

/-- slices.AppendSeq[[]wherry/api.Pair,wherry/api.Pair] -/
def F_slices_AppendSeq_of___api_Pair_api_Pair (A : Amb) (s : Sl) (seq : Value) (h : Heap) (R : Value → Heap → Prop) : Prop :=
  New h (.cells #[.slice s.p s.len s.cap] t_sl_api_Pair) fun b h1 =>
  RangeK A P seq [.agg [.str, .str, .bool]] (fun (args : (ByteArray × ByteArray × Bool × Unit) × Unit) l h2 kn kj =>
      New h2 (.cells #[.string (⟨#[]⟩ : ByteArray), .string (⟨#[]⟩ : ByteArray), .bool false] t_api_Pair) fun b1 h4 =>
      Store h4 (⟨b1, 0, none⟩ : Addr) (.string args.1.1) fun h5 =>
      Store h5 ((⟨b1, 0, none⟩ : Addr).add 1) (.string args.1.2.1) fun h6 =>
      Store h6 ((⟨b1, 0, none⟩ : Addr).add 2) (.bool args.1.2.2.1) fun h7 =>
      ∃ vrec : Go.Loop, h7[l]? = some (.loop vrec) ∧ vrec.state = .ready ∧ (
        LoadL (h7.setIfInBounds l (.loop { vrec with state := .busy })) (⟨b, 0, none⟩ : Addr) fun t8 =>
        LoadS (h7.setIfInBounds l (.loop { vrec with state := .busy })) (⟨b1, 0, none⟩ : Addr) fun t9_0 =>
        LoadS (h7.setIfInBounds l (.loop { vrec with state := .busy })) ((⟨b1, 0, none⟩ : Addr).add 1) fun t9_1 =>
        LoadB (h7.setIfInBounds l (.loop { vrec with state := .busy })) ((⟨b1, 0, none⟩ : Addr).add 2) fun t9_2 =>
        New (h7.setIfInBounds l (.loop { vrec with state := .busy })) (.cells #[.string t9_0, .string t9_1, .bool t9_2] t_api_Pair) fun b2 h8 =>
        RunK A P (Builtin.append_ #[t_sl_api_Pair, t_sl_api_Pair] t_sl_api_Pair #[.slice t8.p t8.len t8.cap, .slice (some (⟨b2, 0, none⟩ : Addr)) 1 1]) h8 fun v h9 => ∃ t11 : Sl, v = .slice t11.p t11.len t11.cap ∧ (
        Store h9 (⟨b, 0, none⟩ : Addr) (.slice t11.p t11.len t11.cap) fun h10 =>
        kn h10))) h1 (fun h11 =>
      LoadL h11 (⟨b, 0, none⟩ : Addr) fun t12 =>
      h11[h1.size]? = some (.deferred (some [])) ∧ (
      R (.slice t12.p t12.len t12.cap) (h11.setIfInBounds h1.size (.deferred none)))) (fun j h12 =>
    (match j with
 | none => (
        h12[h1.size]? = some (.deferred (some [])) ∧ (
        R (.slice none 0 0) (h12.setIfInBounds h1.size (.deferred none))))
 | some i => (match Nat.beq i 0 with
 | true => (
        LoadL h12 (⟨b, 0, none⟩ : Addr) fun t12_1 =>
        h12[h1.size]? = some (.deferred (some [])) ∧ (
        R (.slice t12_1.p t12_1.len t12_1.cap) (h12.setIfInBounds h1.size (.deferred none))))
 | false => False)))

def a_slices_AppendSeq_of___api_Pair_api_Pair : Ann := .seq .none (.seq (.seq .none (.block (.range [.agg [.str, .str, .bool]] .none (.block .none)))) (.seq .none .none))

theorem e_slices_AppendSeq_of___api_Pair_api_Pair (A : Amb) (s : Sl) (seq : Value) (h : Heap) (R : Value → Heap → Prop) : F_slices_AppendSeq_of___api_Pair_api_Pair A s seq h R = semFun A P f_slices_AppendSeq_of___api_Pair_api_Pair a_slices_AppendSeq_of___api_Pair_api_Pair [.slice s.p s.len s.cap, seq] h R := by kernel_rfl
theorem ok_slices_AppendSeq_of___api_Pair_api_Pair {A : Amb} {s : Sl} {seq : Value} {h : Heap} {R : Value → Heap → Prop} (H : F_slices_AppendSeq_of___api_Pair_api_Pair A s seq h R) : HCalls A P f_slices_AppendSeq_of___api_Pair_api_Pair #[.slice s.p s.len s.cap, seq] h R :=
  semFun_sound mixed (e_slices_AppendSeq_of___api_Pair_api_Pair A s seq h R ▸ H)

/-- wherry/merge.All$1 -/
def F_merge_All_1 (A : Amb) (yield : Value) (c0 : Option Addr) (h : Heap) (R : Value → Heap → Prop) : Prop :=
  At c0 fun a =>
  LoadL h a fun t12 =>
  Loop (fun K (s : Sl × Int × Unit) h1 =>
    PIf (decide (s.2.1 < ((t12.len : Nat) : Int))) (
      Join (fun (s1 : Sl × Unit) h2 =>
          K ((⟨s1.1.p, s1.1.len, s1.1.cap⟩ : Sl), (IntKind.wrap .i64 (s.2.1 + (1 : Int))), ()) h2) fun K1 =>
        Idx t12.p t12.len s.2.1 fun a1 =>
        LoadV h1 (a1.add (s.2.1.toNat * 1)) fun t17 =>
        Chk (isFn t17) <|
        PIf (!(isNilF t17)) (
          HCalls A P f_slices_Collect_of_api_Pair #[t17] h1 fun v h3 => ∃ t22 : Sl, v = .slice t22.p t22.len t22.cap ∧ (
          New h3 (.cells #[.slice t22.p t22.len t22.cap] t_sl_api_Pair) fun b h4 =>
          RunK A P (Builtin.append_ #[t_sl_sl_api_Pair, t_sl_sl_api_Pair] t_sl_sl_api_Pair #[.slice s.1.p s.1.len s.1.cap, .slice (some (⟨b, 0, none⟩ : Addr)) 1 1]) h4 fun v1 h5 => ∃ t24 : Sl, v1 = .slice t24.p t24.len t24.cap ∧ (
          K1 ((⟨t24.p, t24.len, t24.cap⟩ : Sl), ()) h5))) (
          K1 ((⟨s.1.p, s.1.len, s.1.cap⟩ : Sl), ()) h1)) (
      Loop (fun K2 (s2 : Unit) h6 =>
        Loop (fun K3 (s3 : Int × Int × Unit) h7 =>
          PIf (decide (s3.2.1 < ((s.1.len : Nat) : Int))) (
            Join (fun (s4 : Int × Unit) h8 =>
                K3 (s4.1, (IntKind.wrap .i64 (s3.2.1 + (1 : Int))), ()) h8) fun K4 =>
              Idx s.1.p s.1.len s3.2.1 fun a2 =>
              LoadL h7 (a2.add (s3.2.1.toNat * 1)) fun t32 =>
              Join (fun (r : Bool × Unit) h9 =>
                  PIf r.1 (
                    K4 (s3.2.1, ()) h9) (
                    K4 (s3.1, ()) h9)) fun K5 =>
                PIf (decide (((t32.len : Nat) : Int) > (0 : Int))) (
                  PIf (decide (s3.1 < (0 : Int))) (
                    K5 (true, ()) h7) (
                    Idx t32.p t32.len 0 fun a3 =>
                    LoadS h7 (a3.add ((0 : Int).toNat * 3)) fun t43 =>
                    Idx s.1.p s.1.len s3.1 fun a4 =>
                    LoadL h7 (a4.add (s3.1.toNat * 1)) fun t47 =>
                    Idx t47.p t47.len 0 fun a5 =>
                    LoadS h7 (a5.add ((0 : Int).toNat * 3)) fun t50 =>
                    K5 ((sLt t43 t50), ()) h7)) (
                  K5 (false, ()) h7)) (
            PIf (decide (s3.1 < (0 : Int))) (
              R (.tuple #[]) h7) (
              Idx s.1.p s.1.len s3.1 fun a6 =>
              LoadL h7 (a6.add (s3.1.toNat * 1)) fun t61 =>
              Idx t61.p t61.len 0 fun a7 =>
              LoadS h7 (a7.add ((0 : Int).toNat * 3)) fun t63_0 =>
              LoadS h7 ((a7.add ((0 : Int).toNat * 3)).add 1) fun t63_1 =>
              LoadB h7 ((a7.add ((0 : Int).toNat * 3)).add 2) fun t63_2 =>
              New h7 (.cells #[.string (⟨#[]⟩ : ByteArray), .string (⟨#[]⟩ : ByteArray), .bool false] t_api_Pair) fun b1 h10 =>
              Store h10 (⟨b1, 0, none⟩ : Addr) (.string t63_0) fun h11 =>
              Store h11 ((⟨b1, 0, none⟩ : Addr).add 1) (.string t63_1) fun h12 =>
              Store h12 ((⟨b1, 0, none⟩ : Addr).add 2) (.bool t63_2) fun h13 =>
              Loop (fun K6 (s5 : Int × Unit) h14 =>
                PIf (decide (s5.1 < ((s.1.len : Nat) : Int))) (
                  Idx s.1.p s.1.len s5.1 fun a8 =>
                  LoadL h14 (a8.add (s5.1.toNat * 1)) fun t70 =>
                  Loop (fun K7 (s6 : Sl × Unit) h15 =>
                    Join (fun (r1 : Bool × Unit) h16 =>
                        PIf r1.1 (
                          Chk ((0 : Int) ≤ 1 ∧ 1 ≤ ((s6.1.len : Nat) : Int)) <|
                          K7 ((⟨(slOff s6.1.p s6.1.cap ((1 : Int).toNat) 3), (s6.1.len - ((1 : Int).toNat)), (s6.1.cap - ((1 : Int).toNat))⟩ : Sl), ()) h16) (
                          Idx s.1.p s.1.len s5.1 fun a9 =>
                          Store h16 (a9.add (s5.1.toNat * 1)) (.slice s6.1.p s6.1.len s6.1.cap) fun h17 =>
                          K6 ((IntKind.wrap .i64 (s5.1 + (1 : Int))), ()) h17)) fun K8 =>
                      PIf (decide (((s6.1.len : Nat) : Int) > (0 : Int))) (
                        Idx s6.1.p s6.1.len 0 fun a10 =>
                        LoadS h15 (a10.add ((0 : Int).toNat * 3)) fun t78 =>
                        LoadS h15 (⟨b1, 0, none⟩ : Addr) fun t80 =>
                        K8 ((sLt t78 t80 || sEq t78 t80), ()) h15) (
                        K8 (false, ()) h15)) ((⟨t70.p, t70.len, t70.cap⟩ : Sl), ()) h14) (
                  LoadS h14 (⟨b1, 0, none⟩ : Addr) fun t91_0 =>
                  LoadS h14 ((⟨b1, 0, none⟩ : Addr).add 1) fun t91_1 =>
                  LoadB h14 ((⟨b1, 0, none⟩ : Addr).add 2) fun t91_2 =>
                  CallV A P yield #[.agg #[.string t91_0, .string t91_1, .bool t91_2]] h14 fun v2 h18 => ∃ t92 : Bool, v2 = .bool t92 ∧ (
                  PIf (!t92) (
                    R (.tuple #[]) h18) (
                    K2 () h18)))) (0, ()) h13))) ((-1), 0, ()) h6) () h1)) ((⟨none, 0, 0⟩ : Sl), 0, ()) h

def a_merge_All_1 : Ann := .seq .none (.seq (.seq .none (.block (.loop [(3, .one .sl), (14, .one (.int .i64))] [0, 12, 13] (.seq .none (.seq (.cond .none .none) (.seq (.blockJ [(3, .one .sl)] [0, 12, 13, 14] (.seq .none (.seq .none (.cond .none .none)))) .none)))))) (.block (.loop [] [0, 3] (.block (.seq .none (.seq (.seq .none (.block (.loop [(6, .one (.int .i64)), (28, .one (.int .i64))] [0, 3, 26, 27] (.seq .none (.seq (.cond .none .none) (.seq (.blockJ [(6, .one (.int .i64))] [0, 3, 26, 27, 28] (.seq .none (.seq (.reg [(53, .one .bool)] [0, 3, 6, 7, 26, 27, 28]) (.cond .none .none)))) .none)))))) (.seq (.seq .none (.cond .none .none)) (.seq .none (.seq (.seq .none (.block (.loop [(66, .one (.int .i64))] [0, 3, 9, 64, 65] (.seq .none (.seq (.cond .none .none) (.seq (.block (.seq .none (.seq (.block (.loop [(11, .one .sl)] [0, 3, 9, 10, 64, 65, 66] (.seq (.seq (.reg [(82, .one .bool)] [0, 3, 9, 10, 11, 64, 65, 66]) (.cond .none .none)) (.block .none)))) .none))) .none)))))) (.seq .none (.cond .none .none)))))))))))

theorem e_merge_All_1 (A : Amb) (yield : Value) (c0 : Option Addr) (h : Heap) (R : Value → Heap → Prop) : F_merge_All_1 A yield c0 h R = semFun A P f_merge_All_1 a_merge_All_1 [yield, .pointer c0] h R := by kernel_rfl
theorem ok_merge_All_1 {A : Amb} {yield : Value} {c0 : Option Addr} {h : Heap} {R : Value → Heap → Prop} (H : F_merge_All_1 A yield c0 h R) : HCalls A P f_merge_All_1 #[yield, .pointer c0] h R :=
  semFun_sound mixed (e_merge_All_1 A yield c0 h R ▸ H)

/-- wherry/merge.Live$1 -/
def F_merge_Live_1 (A : Amb) (yield : Value) (c0 : Option Addr) (h : Heap) (R : Value → Heap → Prop) : Prop :=
  OneK (oneB yield) <|
  New h (.cells #[yield] t_func_api_Pair_bool) fun b h1 =>
  At c0 fun a =>
  LoadV h1 a fun t4 =>
  Chk (isFn t4) <|
  PIf ((isNilF t4)) (
    R (.tuple #[]) h1) (
    At c0 fun a1 =>
    LoadV h1 a1 fun t6 =>
    RangeK A P t6 [.agg [.str, .str, .bool]] (fun (args : (ByteArray × ByteArray × Bool × Unit) × Unit) l h2 kn kj =>
        New h2 (.cells #[.string (⟨#[]⟩ : ByteArray), .string (⟨#[]⟩ : ByteArray), .bool false] t_api_Pair) fun b1 h4 =>
        Store h4 (⟨b1, 0, none⟩ : Addr) (.string args.1.1) fun h5 =>
        Store h5 ((⟨b1, 0, none⟩ : Addr).add 1) (.string args.1.2.1) fun h6 =>
        Store h6 ((⟨b1, 0, none⟩ : Addr).add 2) (.bool args.1.2.2.1) fun h7 =>
        ∃ vrec : Go.Loop, h7[l]? = some (.loop vrec) ∧ vrec.state = .ready ∧ (
          Join (fun (r : Bool × Unit) h8 =>
              PIf r.1 (
                kj none h8) (
                kn h8)) fun K =>
            LoadB (h7.setIfInBounds l (.loop { vrec with state := .busy })) ((⟨b1, 0, none⟩ : Addr).add 2) fun t9 =>
            PIf (!t9) (
              LoadV (h7.setIfInBounds l (.loop { vrec with state := .busy })) (⟨b, 0, none⟩ : Addr) fun t12 =>
              LoadS (h7.setIfInBounds l (.loop { vrec with state := .busy })) (⟨b1, 0, none⟩ : Addr) fun t13_0 =>
              LoadS (h7.setIfInBounds l (.loop { vrec with state := .busy })) ((⟨b1, 0, none⟩ : Addr).add 1) fun t13_1 =>
              LoadB (h7.setIfInBounds l (.loop { vrec with state := .busy })) ((⟨b1, 0, none⟩ : Addr).add 2) fun t13_2 =>
              CallV A P t12 #[.agg #[.string t13_0, .string t13_1, .bool t13_2]] (h7.setIfInBounds l (.loop { vrec with state := .busy })) fun v h9 => ∃ t14 : Bool, v = .bool t14 ∧ (
              K ((!t14), ()) h9)) (
              K (false, ()) (h7.setIfInBounds l (.loop { vrec with state := .busy }))))) h1 (fun h10 =>
        h10[h1.size]? = some (.deferred (some [])) ∧ (
        R (.tuple #[]) (h10.setIfInBounds h1.size (.deferred none)))) (fun j h11 =>
      (match j with
 | none => (
          h11[h1.size]? = some (.deferred (some [])) ∧ (
          R (.tuple #[]) (h11.setIfInBounds h1.size (.deferred none))))
 | some i => (match Nat.beq i 0 with
 | true => (
          h11[h1.size]? = some (.deferred (some [])) ∧ (
          R (.tuple #[]) (h11.setIfInBounds h1.size (.deferred none))))
 | false => False))))

def a_merge_Live_1 : Ann := .seq .none (.seq (.seq .none (.cond .none .none)) (.seq .none (.block (.range [.agg [.str, .str, .bool]] .none (.block (.seq (.reg [(16, .one .bool)] []) (.cond .none .none)))))))

theorem e_merge_Live_1 (A : Amb) (yield : Value) (c0 : Option Addr) (h : Heap) (R : Value → Heap → Prop) : F_merge_Live_1 A yield c0 h R = semFun A P f_merge_Live_1 a_merge_Live_1 [yield, .pointer c0] h R := by kernel_rfl
theorem ok_merge_Live_1 {A : Amb} {yield : Value} {c0 : Option Addr} {h : Heap} {R : Value → Heap → Prop} (H : F_merge_Live_1 A yield c0 h R) : HCalls A P f_merge_Live_1 #[yield, .pointer c0] h R :=
  semFun_sound mixed (e_merge_Live_1 A yield c0 h R ▸ H)

/-- (*wherry/mem.Table).before -/
def F_mem_Table_before (A : Amb) (t : Option Addr) (key : ByteArray) (h : Heap) (R : Value → Heap → Prop) : Prop :=
  New h (.cells #[.pointer none, .pointer none, .pointer none, .pointer none, .pointer none, .pointer none, .pointer none, .pointer none, .pointer none, .pointer none, .pointer none, .pointer none] t_12_p_mem_node) fun b h1 =>
  New h1 (.cells #[.pointer none, .pointer none, .pointer none, .pointer none, .pointer none, .pointer none, .pointer none, .pointer none, .pointer none, .pointer none, .pointer none, .pointer none] t_12_p_mem_node) fun b1 h2 =>
  At t fun a =>
  Loop (fun K (s : (Option Addr) × Int × Unit) h3 =>
    PIf (decide (s.2.1 ≥ (0 : Int))) (
      Loop (fun K1 (s1 : (Option Addr) × Unit) h4 =>
        Join (fun (r : Bool × Unit) h5 =>
            PIf r.1 (
              At s1.1 fun a1 =>
              Chk ((0 : Int) ≤ s.2.1 ∧ s.2.1 < (12 : Int)) <|
              LoadP h5 ((a1.add 3).add ((s.2.1 : Int).toNat * 1)) fun t41 =>
              K1 (t41, ()) h5) (
              Chk ((0 : Int) ≤ s.2.1 ∧ s.2.1 < (12 : Int)) <|
              Store h5 ((⟨b1, 0, none⟩ : Addr).add ((s.2.1 : Int).toNat * 1)) (.pointer s1.1) fun h6 =>
              K (s1.1, (IntKind.wrap .i64 (s.2.1 - (1 : Int))), ()) h6)) fun K2 =>
          At s1.1 fun a2 =>
          Chk ((0 : Int) ≤ s.2.1 ∧ s.2.1 < (12 : Int)) <|
          LoadP h4 ((a2.add 3).add ((s.2.1 : Int).toNat * 1)) fun t20 =>
          PIf (!t20.isNone) (
            At s1.1 fun a3 =>
            Chk ((0 : Int) ≤ s.2.1 ∧ s.2.1 < (12 : Int)) <|
            LoadP h4 ((a3.add 3).add ((s.2.1 : Int).toNat * 1)) fun t28 =>
            At t28 fun a4 =>
            LoadS h4 a4 fun t32 =>
            K2 ((sLt t32 key), ()) h4) (
            K2 (false, ()) h4)) (s.1, ()) h3) (
      LoadP h3 (⟨b1, 0, none⟩ : Addr) fun t45_0 =>
      LoadP h3 ((⟨b1, 0, none⟩ : Addr).add 1) fun t45_1 =>
      LoadP h3 ((⟨b1, 0, none⟩ : Addr).add 2) fun t45_2 =>
      LoadP h3 ((⟨b1, 0, none⟩ : Addr).add 3) fun t45_3 =>
      LoadP h3 ((⟨b1, 0, none⟩ : Addr).add 4) fun t45_4 =>
      LoadP h3 ((⟨b1, 0, none⟩ : Addr).add 5) fun t45_5 =>
      LoadP h3 ((⟨b1, 0, none⟩ : Addr).add 6) fun t45_6 =>
      LoadP h3 ((⟨b1, 0, none⟩ : Addr).add 7) fun t45_7 =>
      LoadP h3 ((⟨b1, 0, none⟩ : Addr).add 8) fun t45_8 =>
      LoadP h3 ((⟨b1, 0, none⟩ : Addr).add 9) fun t45_9 =>
      LoadP h3 ((⟨b1, 0, none⟩ : Addr).add 10) fun t45_10 =>
      LoadP h3 ((⟨b1, 0, none⟩ : Addr).add 11) fun t45_11 =>
      Store h3 (⟨b, 0, none⟩ : Addr) (.pointer t45_0) fun h7 =>
      Store h7 ((⟨b, 0, none⟩ : Addr).add 1) (.pointer t45_1) fun h8 =>
      Store h8 ((⟨b, 0, none⟩ : Addr).add 2) (.pointer t45_2) fun h9 =>
      Store h9 ((⟨b, 0, none⟩ : Addr).add 3) (.pointer t45_3) fun h10 =>
      Store h10 ((⟨b, 0, none⟩ : Addr).add 4) (.pointer t45_4) fun h11 =>
      Store h11 ((⟨b, 0, none⟩ : Addr).add 5) (.pointer t45_5) fun h12 =>
      Store h12 ((⟨b, 0, none⟩ : Addr).add 6) (.pointer t45_6) fun h13 =>
      Store h13 ((⟨b, 0, none⟩ : Addr).add 7) (.pointer t45_7) fun h14 =>
      Store h14 ((⟨b, 0, none⟩ : Addr).add 8) (.pointer t45_8) fun h15 =>
      Store h15 ((⟨b, 0, none⟩ : Addr).add 9) (.pointer t45_9) fun h16 =>
      Store h16 ((⟨b, 0, none⟩ : Addr).add 10) (.pointer t45_10) fun h17 =>
      Store h17 ((⟨b, 0, none⟩ : Addr).add 11) (.pointer t45_11) fun h18 =>
      LoadP h18 (⟨b, 0, none⟩ : Addr) fun res_0 =>
      LoadP h18 ((⟨b, 0, none⟩ : Addr).add 1) fun res_1 =>
      LoadP h18 ((⟨b, 0, none⟩ : Addr).add 2) fun res_2 =>
      LoadP h18 ((⟨b, 0, none⟩ : Addr).add 3) fun res_3 =>
      LoadP h18 ((⟨b, 0, none⟩ : Addr).add 4) fun res_4 =>
      LoadP h18 ((⟨b, 0, none⟩ : Addr).add 5) fun res_5 =>
      LoadP h18 ((⟨b, 0, none⟩ : Addr).add 6) fun res_6 =>
      LoadP h18 ((⟨b, 0, none⟩ : Addr).add 7) fun res_7 =>
      LoadP h18 ((⟨b, 0, none⟩ : Addr).add 8) fun res_8 =>
      LoadP h18 ((⟨b, 0, none⟩ : Addr).add 9) fun res_9 =>
      LoadP h18 ((⟨b, 0, none⟩ : Addr).add 10) fun res_10 =>
      LoadP h18 ((⟨b, 0, none⟩ : Addr).add 11) fun res_11 =>
      R (.agg #[.pointer res_0, .pointer res_1, .pointer res_2, .pointer res_3, .pointer res_4, .pointer res_5, .pointer res_6, .pointer res_7, .pointer res_8, .pointer res_9, .pointer res_10, .pointer res_11]) h18)) ((some a), 11, ()) h2

def a_mem_Table_before : Ann := .seq .none (.seq .none (.seq .none (.seq (.seq .none (.block (.loop [(6, .one .ptr), (7, .one (.int .i64))] [1, 4, 5] (.seq (.seq .none (.cond .none .none)) (.seq (.block (.seq (.block (.loop [(6, .one .ptr)] [1, 4, 5, 7] (.seq (.seq (.reg [(35, .one .bool)] [1, 4, 5, 6, 7]) (.cond .none .none)) (.block .none)))) .none)) .none))))) (.seq .none .none))))

theorem e_mem_Table_before (A : Amb) (t : Option Addr) (key : ByteArray) (h : Heap) (R : Value → Heap → Prop) : F_mem_Table_before A t key h R = semFun A P f_mem_Table_before a_mem_Table_before [.pointer t, .string key] h R := by kernel_rfl
theorem ok_mem_Table_before {A : Amb} {t : Option Addr} {key : ByteArray} {h : Heap} {R : Value → Heap → Prop} (H : F_mem_Table_before A t key h R) : HCalls A P f_mem_Table_before #[.pointer t, .string key] h R :=
  semFun_sound mixed (e_mem_Table_before A t key h R ▸ H)

/-- wherry/mem.height -/
def F_mem_height (A : Amb) (key : ByteArray) (h : Heap) (R : Value → Heap → Prop) : Prop :=
  Loop (fun K (s : Int × Int × Unit) h1 =>
    PIf (decide (s.2.1 < (key.size : Int))) (
      Chk ((0 : Int) ≤ s.2.1 ∧ s.2.1 < (key.size : Int)) <|
      K ((IntKind.wrap .u32 ((bXor .u32 s.1 (IntKind.wrap .u32 (sAt key s.2.1))) * (16777619 : Int))), (IntKind.wrap .i64 (s.2.1 + (1 : Int))), ()) h1) (
      Loop (fun K1 (s1 : Int × Int × Unit) h2 =>
        Join (fun (r : Bool × Unit) h3 =>
            PIf r.1 (
              K1 ((s1.1.fdiv ((2 : Int) ^ (2 : Nat))), (IntKind.wrap .i64 (s1.2.1 + (1 : Int))), ()) h3) (
              R (.int .i64 s1.2.1) h3)) fun K2 =>
          PIf (decide (s1.2.1 < (12 : Int))) (
            K2 (((bAnd .u32 s1.1 (3 : Int)) == (0 : Int)), ()) h2) (
            K2 (false, ()) h2)) ((bXor .u32 s.1 (s.1.fdiv ((2 : Int) ^ (15 : Nat)))), 1, ()) h1)) (2166136261, 0, ()) h

def a_mem_height : Ann := .seq .none (.seq .none (.seq (.seq .none (.block (.loop [(3, .one (.int .u32)), (8, .one (.int .i64))] [0, 7] (.seq .none (.seq (.cond .none .none) (.seq (.block (.seq .none .none)) .none)))))) (.seq .none (.seq .none (.seq (.block (.loop [(3, .one (.int .u32)), (5, .one (.int .i64))] [] (.seq (.seq (.reg [(29, .one .bool)] [3, 5]) (.cond .none .none)) (.block (.seq .none .none))))) (.seq .none .none))))))

theorem e_mem_height (A : Amb) (key : ByteArray) (h : Heap) (R : Value → Heap → Prop) : F_mem_height A key h R = semFun A P f_mem_height a_mem_height [.string key] h R := by kernel_rfl
theorem ok_mem_height {A : Amb} {key : ByteArray} {h : Heap} {R : Value → Heap → Prop} (H : F_mem_height A key h R) : HCalls A P f_mem_height #[.string key] h R :=
  semFun_sound mixed (e_mem_height A key h R ▸ H)

/-- (*wherry/mem.Table).From$1 -/
def F_mem_Table_From_1 (A : Amb) (yield : Value) (c0 : Option Addr) (c1 : Option Addr) (h : Heap) (R : Value → Heap → Prop) : Prop :=
  At c0 fun a =>
  LoadP h a fun t5 =>
  PIf (t5.isNone) (
    R (.tuple #[]) h) (
    At c0 fun a1 =>
    LoadP h a1 fun t7 =>
    At c1 fun a2 =>
    LoadS h a2 fun t8 =>
    HCalls A P f_mem_Table_before #[.pointer t7, .string t8] h fun v h1 => ∃ t9_0 : Option Addr, ∃ t9_1 : Option Addr, ∃ t9_2 : Option Addr, ∃ t9_3 : Option Addr, ∃ t9_4 : Option Addr, ∃ t9_5 : Option Addr, ∃ t9_6 : Option Addr, ∃ t9_7 : Option Addr, ∃ t9_8 : Option Addr, ∃ t9_9 : Option Addr, ∃ t9_10 : Option Addr, ∃ t9_11 : Option Addr, v = .agg #[.pointer t9_0, .pointer t9_1, .pointer t9_2, .pointer t9_3, .pointer t9_4, .pointer t9_5, .pointer t9_6, .pointer t9_7, .pointer t9_8, .pointer t9_9, .pointer t9_10, .pointer t9_11] ∧ (
    At t9_0 fun a3 =>
    Chk ((0 : Int) ≤ 0 ∧ 0 < (12 : Int)) <|
    LoadP h1 ((a3.add 3).add ((0 : Int).toNat * 1)) fun t14 =>
    Loop (fun K (s : (Option Addr) × Unit) h2 =>
      PIf (!s.1.isNone) (
        At s.1 fun a4 =>
        LoadS h2 a4 fun t26_0 =>
        LoadS h2 (a4.add 1) fun t26_1 =>
        LoadB h2 (a4.add 2) fun t26_2 =>
        CallV A P yield #[.agg #[.string t26_0, .string t26_1, .bool t26_2]] h2 fun v1 h3 => ∃ t27 : Bool, v1 = .bool t27 ∧ (
        PIf (!t27) (
          R (.tuple #[]) h3) (
          At s.1 fun a5 =>
          Chk ((0 : Int) ≤ 0 ∧ 0 < (12 : Int)) <|
          LoadP h3 ((a5.add 3).add ((0 : Int).toNat * 1)) fun t21 =>
          K (t21, ()) h3))) (
        R (.tuple #[]) h2)) (t14, ()) h1))

def a_mem_Table_From_1 : Ann := .seq (.seq .none (.cond .none .none)) (.seq .none (.block (.loop [(4, .one .ptr)] [0] (.seq (.seq .none (.cond .none .none)) (.seq (.block (.seq .none (.cond .none .none))) .none)))))

theorem e_mem_Table_From_1 (A : Amb) (yield : Value) (c0 : Option Addr) (c1 : Option Addr) (h : Heap) (R : Value → Heap → Prop) : F_mem_Table_From_1 A yield c0 c1 h R = semFun A P f_mem_Table_From_1 a_mem_Table_From_1 [yield, .pointer c0, .pointer c1] h R := by kernel_rfl
theorem ok_mem_Table_From_1 {A : Amb} {yield : Value} {c0 : Option Addr} {c1 : Option Addr} {h : Heap} {R : Value → Heap → Prop} (H : F_mem_Table_From_1 A yield c0 c1 h R) : HCalls A P f_mem_Table_From_1 #[yield, .pointer c0, .pointer c1] h R :=
  semFun_sound mixed (e_mem_Table_From_1 A yield c0 c1 h R ▸ H)

/-- slices.Values[[]wherry/api.Pair,wherry/api.Pair]$1 -/
def F_slices_Values_of___api_Pair_api_Pair_1 (A : Amb) (yield : Value) (c0 : Option Addr) (h : Heap) (R : Value → Heap → Prop) : Prop :=
  At c0 fun a =>
  LoadL h a fun t5 =>
  Loop (fun K (s : Int × Unit) h1 =>
    PIf (decide (s.1 < ((t5.len : Nat) : Int))) (
      Idx t5.p t5.len s.1 fun a1 =>
      LoadS h1 (a1.add (s.1.toNat * 3)) fun t10_0 =>
      LoadS h1 ((a1.add (s.1.toNat * 3)).add 1) fun t10_1 =>
      LoadB h1 ((a1.add (s.1.toNat * 3)).add 2) fun t10_2 =>
      New h1 (.cells #[.string (⟨#[]⟩ : ByteArray), .string (⟨#[]⟩ : ByteArray), .bool false] t_api_Pair) fun b h2 =>
      Store h2 (⟨b, 0, none⟩ : Addr) (.string t10_0) fun h3 =>
      Store h3 ((⟨b, 0, none⟩ : Addr).add 1) (.string t10_1) fun h4 =>
      Store h4 ((⟨b, 0, none⟩ : Addr).add 2) (.bool t10_2) fun h5 =>
      LoadS h5 (⟨b, 0, none⟩ : Addr) fun t12_0 =>
      LoadS h5 ((⟨b, 0, none⟩ : Addr).add 1) fun t12_1 =>
      LoadB h5 ((⟨b, 0, none⟩ : Addr).add 2) fun t12_2 =>
      CallV A P yield #[.agg #[.string t12_0, .string t12_1, .bool t12_2]] h5 fun v h6 => ∃ t13 : Bool, v = .bool t13 ∧ (
      PIf (!t13) (
        R (.tuple #[]) h6) (
        K ((IntKind.wrap .i64 (s.1 + (1 : Int))), ()) h6))) (
      R (.tuple #[]) h1)) (0, ()) h

def a_slices_Values_of___api_Pair_api_Pair_1 : Ann := .seq .none (.block (.loop [(7, .one (.int .i64))] [0, 5, 6] (.seq .none (.seq (.cond .none .none) (.seq (.block (.seq .none (.seq .none (.cond .none .none)))) .none)))))

theorem e_slices_Values_of___api_Pair_api_Pair_1 (A : Amb) (yield : Value) (c0 : Option Addr) (h : Heap) (R : Value → Heap → Prop) : F_slices_Values_of___api_Pair_api_Pair_1 A yield c0 h R = semFun A P f_slices_Values_of___api_Pair_api_Pair_1 a_slices_Values_of___api_Pair_api_Pair_1 [yield, .pointer c0] h R := by kernel_rfl
theorem ok_slices_Values_of___api_Pair_api_Pair_1 {A : Amb} {yield : Value} {c0 : Option Addr} {h : Heap} {R : Value → Heap → Prop} (H : F_slices_Values_of___api_Pair_api_Pair_1 A yield c0 h R) : HCalls A P f_slices_Values_of___api_Pair_api_Pair_1 #[yield, .pointer c0] h R :=
  semFun_sound mixed (e_slices_Values_of___api_Pair_api_Pair_1 A yield c0 h R ▸ H)

/-- wherry/wherryref05.Wrong -/
def F_wherryref05_Wrong (A : Amb) (p_0 : ByteArray) (p_1 : ByteArray) (p_2 : Bool) (h : Heap) (R : Value → Heap → Prop) : Prop :=
  New h (.cells #[.string p_0, .string p_1, .bool p_2] t_api_Pair) fun b h1 =>
  Join (fun (r : Bool × Unit) h2 =>
      PIf r.1 (
        R (.int .i64 1) h2) (
        Join (fun (r1 : Bool × Unit) h3 =>
            PIf r1.1 (
              R (.int .i64 2) h3) (
              R (.int .i64 0) h3)) fun K1 =>
          LoadS h2 (⟨b, 0, none⟩ : Addr) fun t16 =>
          PIf (decide ((t16.size : Int) > (64 : Int))) (
            K1 (true, ()) h2) (
            LoadS h2 ((⟨b, 0, none⟩ : Addr).add 1) fun t21 =>
            K1 ((decide ((t21.size : Int) > (8192 : Int))), ()) h2))) fun K =>
    LoadS h1 (⟨b, 0, none⟩ : Addr) fun t4 =>
    PIf (sEq t4 (⟨#[]⟩ : ByteArray)) (
      K (true, ()) h1) (
      LoadB h1 ((⟨b, 0, none⟩ : Addr).add 2) fun t8 =>
      PIf t8 (
        LoadS h1 ((⟨b, 0, none⟩ : Addr).add 1) fun t11 =>
        K ((!sEq t11 (⟨#[]⟩ : ByteArray)), ()) h1) (
        K (false, ()) h1))

def a_wherryref05_Wrong : Ann := .seq .none (.seq (.seq (.reg [(14, .one .bool)] [1]) (.cond (.seq .none .none) .none)) (.seq (.seq (.reg [(24, .one .bool)] []) (.cond (.seq .none .none) .none)) (.seq .none .none)))

theorem e_wherryref05_Wrong (A : Amb) (p_0 : ByteArray) (p_1 : ByteArray) (p_2 : Bool) (h : Heap) (R : Value → Heap → Prop) : F_wherryref05_Wrong A p_0 p_1 p_2 h R = semFun A P f_wherryref05_Wrong a_wherryref05_Wrong [.agg #[.string p_0, .string p_1, .bool p_2]] h R := by kernel_rfl
theorem ok_wherryref05_Wrong {A : Amb} {p_0 : ByteArray} {p_1 : ByteArray} {p_2 : Bool} {h : Heap} {R : Value → Heap → Prop} (H : F_wherryref05_Wrong A p_0 p_1 p_2 h R) : HCalls A P f_wherryref05_Wrong #[.agg #[.string p_0, .string p_1, .bool p_2]] h R :=
  semFun_sound mixed (e_wherryref05_Wrong A p_0 p_1 p_2 h R ▸ H)

/-- (*wherry/wherryref05.Table).at -/
def F_wherryref05_Table_at (A : Amb) (t : Option Addr) (key : ByteArray) (h : Heap) (R : Value → Heap → Prop) : Prop :=
  Loop (fun K (s : Int × Unit) h1 =>
    Join (fun (r : Bool × Unit) h2 =>
        PIf r.1 (
          K ((IntKind.wrap .i64 (s.1 + (1 : Int))), ()) h2) (
          At t fun a =>
          LoadL h2 a fun t33 =>
          PIf (decide (s.1 < ((t33.len : Nat) : Int))) (
            At t fun a1 =>
            LoadL h2 a1 fun t40 =>
            Idx t40.p t40.len s.1 fun a2 =>
            LoadS h2 (a2.add (s.1.toNat * 3)) fun t44 =>
            R (.tuple #[.int .i64 s.1, .bool (sEq t44 key)]) h2) (
            R (.tuple #[.int .i64 s.1, .bool false]) h2))) fun K1 =>
      At t fun a3 =>
      LoadL h1 a3 fun t11 =>
      PIf (decide (s.1 < ((t11.len : Nat) : Int))) (
        At t fun a4 =>
        LoadL h1 a4 fun t18 =>
        Idx t18.p t18.len s.1 fun a5 =>
        LoadS h1 (a5.add (s.1.toNat * 3)) fun t22 =>
        K1 ((sLt t22 key), ()) h1) (
        K1 (false, ()) h1)) (0, ()) h

def a_wherryref05_Table_at : Ann := .seq .none (.seq .none (.seq (.block (.loop [(6, .one (.int .i64))] [0, 1] (.seq (.seq (.reg [(25, .one .bool)] [0, 1, 6]) (.cond .none .none)) (.block .none)))) (.seq .none .none)))

theorem e_wherryref05_Table_at (A : Amb) (t : Option Addr) (key : ByteArray) (h : Heap) (R : Value → Heap → Prop) : F_wherryref05_Table_at A t key h R = semFun A P f_wherryref05_Table_at a_wherryref05_Table_at [.pointer t, .string key] h R := by kernel_rfl
theorem ok_wherryref05_Table_at {A : Amb} {t : Option Addr} {key : ByteArray} {h : Heap} {R : Value → Heap → Prop} (H : F_wherryref05_Table_at A t key h R) : HCalls A P f_wherryref05_Table_at #[.pointer t, .string key] h R :=
  semFun_sound mixed (e_wherryref05_Table_at A t key h R ▸ H)

end Go.Lf.G
