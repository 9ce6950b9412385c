/-
  LIFT, part U6: what is reckoned of floats and complex numbers, as rules.
-/
import Derived.Test.YtcaiammecilkeaaLfU5
set_option maxRecDepth 100000
set_option linter.unusedVariables false
namespace Go.Lf
open Go Ieee

theorem RunK.calc {A : Amb} {P : Program} {s : Sem Value} {h : Heap} {K : Value → Heap → Prop} {v : Value} (hc : s.calc P = some v) (H : K v h) : RunK A P s h K := fun n => ⟨v, h, n, calc_sound hc _, H⟩
theorem RunK.run {A : Amb} {P : Program} {s : Sem Value} {h : Heap} {K : Value → Heap → Prop} {v : Value} (hc : ∀ w, s.run P w = .ok v w) (H : K v h) : RunK A P s h K := fun n => ⟨v, h, n, hc _, H⟩

section
variable {A : Amb} {P : Program} {t : TypeId} {o1 o2 : Operand} {x y : Nat} {h : Heap} {K : Value → Heap → Prop}
abbrev fop (op : BinOp) (t : TypeId) (o1 o2 : Operand) (x y : Nat) : Sem Value := do eqGuard op t o1 o2 (.float .f64 x) (.float .f64 y); binOp op t (.float .f64 x) (.float .f64 y)
theorem fgeq_ok (H : K (.bool (fD.order x y == some .gt || fD.order x y == some .eq)) h) : RunK A P (fop .geq t o1 o2 x y) h K := RunK.calc rfl H
theorem fleq_ok (H : K (.bool (fD.order x y == some .lt || fD.order x y == some .eq)) h) : RunK A P (fop .leq t o1 o2 x y) h K := RunK.calc rfl H
theorem fgtr_ok (H : K (.bool (fD.order x y == some .gt)) h) : RunK A P (fop .gtr t o1 o2 x y) h K := RunK.calc rfl H
theorem feql_ok (H : K (.bool (fD.order x y == some .eq)) h) : RunK A P (fop .eql t o1 o2 x y) h K := RunK.calc rfl H
theorem fneq_ok (H : K (.bool (fD.order x y != some .eq)) h) : RunK A P (fop .neq t o1 o2 x y) h K := RunK.calc rfl H
theorem fadd_ok {r : Nat} (hr : fD.add x y = some r) (H : K (.float .f64 r) h) : RunK A P (fop .add t o1 o2 x y) h K := by
  refine RunK.run (fun w => ?_) H
  have := run_float_arith (P := P) w .add t .f64 x y r hr
  simp only [fop, Sem.run_bind]
  have e : (eqGuard .add t o1 o2 (.float .f64 x) (.float .f64 y)).run P w = .ok () w := rfl
  rw [e, Result.andThen_ok, this]

/-- i times a place's number -/
theorem arith_run {op : BinOp} {r : Nat} (hr : floatBits op .f64 x y = some r) (w : World) : (Op.Complex.arith op .f64 x y).run P w = .ok r w := by
  unfold floatBits at hr
  unfold Op.Complex.arith
  cases op <;> simp only at hr <;> first | (cases hr; done) | skip
  all_goals
    have h1 : ∀ k, FloatKind.f64.format = k → True := fun _ _ => trivial
    simp [Op.floatArith, hr]

abbrev cop (op : BinOp) (t : TypeId) (o1 o2 : Operand) (a b c d : Nat) : Sem Value := do eqGuard op t o1 o2 (.complex .f64 a b) (.complex .f64 c d); binOp op t (.complex .f64 a b) (.complex .f64 c d)
theorem cmul_ok {a b c d r1 r2 e r3 r4 f : Nat} (h1 : fD.mul a c = some r1) (h2 : fD.mul b d = some r2) (h3 : fD.sub r1 r2 = some e) (h4 : fD.mul a d = some r3) (h5 : fD.mul b c = some r4) (h6 : fD.add r3 r4 = some f)
    (H : K (.complex .f64 e f) h) : RunK A P (cop .mul t o1 o2 a b c d) h K := by
  refine RunK.run (fun w => ?_) H
  have k1 := arith_run (P := P) (op := .mul) (x := a) (y := c) h1 w
  have k2 := arith_run (P := P) (op := .mul) (x := b) (y := d) h2 w
  have k3 := arith_run (P := P) (op := .sub) (x := r1) (y := r2) h3 w
  have k4 := arith_run (P := P) (op := .mul) (x := a) (y := d) h4 w
  have k5 := arith_run (P := P) (op := .mul) (x := b) (y := c) h5 w
  have k6 := arith_run (P := P) (op := .add) (x := r3) (y := r4) h6 w
  simp only [cop, Sem.run_bind]
  have e0 : (eqGuard .mul t o1 o2 (.complex .f64 a b) (.complex .f64 c d)).run P w = .ok () w := rfl
  rw [e0, Result.andThen_ok]
  have e1 : binOp .mul t (.complex .f64 a b) (.complex .f64 c d) = Op.complexOp .mul .f64 a b c d := by simp [binOp]
  rw [e1]
  simp [Op.complexOp, Op.Complex.conv, Op.Complex.product, Op.Complex.mul, Op.Complex.sub, Op.Complex.add, Sem.run_bind, k1, k2, k3, k4, k5, k6]
theorem ceql_ok {a b c d : Nat} (H : K (.bool (fD.order a c == some .eq && fD.order b d == some .eq)) h) : RunK A P (cop .eql t o1 o2 a b c d) h K := RunK.calc rfl H
theorem cneq_ok {a b c d : Nat} (H : K (.bool (!(fD.order a c == some .eq && fD.order b d == some .eq))) h) : RunK A P (cop .neq t o1 o2 a b c d) h K := RunK.calc rfl H
theorem real_ok {at_ : Array TypeId} {ty : TypeId} {a b : Nat} (H : K (.float .f64 a) h) : RunK A P (Builtin.real_ at_ ty #[.complex .f64 a b]) h K := RunK.calc rfl H
theorem imag_ok {at_ : Array TypeId} {ty : TypeId} {a b : Nat} (H : K (.float .f64 b) h) : RunK A P (Builtin.imag_ at_ ty #[.complex .f64 a b]) h K := RunK.calc rfl H
theorem complex_ok {at_ : Array TypeId} {ty : TypeId} {a b : Nat} (H : K (.complex .f64 a b) h) : RunK A P (Builtin.complex_ at_ ty #[.float .f64 a, .float .f64 b]) h K := RunK.calc rfl H
theorem f2i_ok {src dst : TypeId} {b : Nat} {n : Int} (hs : P.underlying src = some (.float .f64)) (hd : P.underlying dst = some (.int .i64)) (hv : floatToIntVal .f64 b .i64 = some n) (H : K (.int .i64 n) h) : RunK A P (convert src dst (.float .f64 b)) h K :=
  RunK.run (fun w => run_convert_float_int w src dst .f64 .i64 b n (by rw [hs]; rfl) hd hv) H
theorem i2f_ok {src dst : TypeId} {n : Int} (hs : P.underlying src = some (.int .i64)) (hd : P.underlying dst = some (.float .f64)) (H : K (.float .f64 (floatOfInt .f64 n)) h) : RunK A P (convert src dst (.int .i64 n)) h K := by
  refine RunK.run (fun w => ?_) H
  have e : FloatKind.f64.nearest n = floatOfInt .f64 n := rfl
  simp [convert, run_und hs, run_und hd, Conv.intToFloat, e]
theorem max_ok {at_ : Array TypeId} {ty : TypeId} {n m : Int} (hx : VR x n) (hy : VR y m) (H : ∀ r, VR r (max n m) → K (.float .f64 r) h) : RunK A P (Builtin.max_ at_ ty #[.float .f64 x, .float .f64 y]) h K := by
  have ho := VR.order hx hy
  have ho' : FloatKind.f64.format.order x y = some (compare n m) := ho
  by_cases h1 : n < m
  · have e : compare n m = .lt := cmp_lt'.2 h1
    refine RunK.run (v := .float .f64 y) (fun w => ?_) (H y (by rw [show max n m = m by omega]; exact hy))
    simp [Builtin.max_, Builtin.max2, ho', e]
  · by_cases h2 : m < n
    · have e : compare n m = .gt := cmp_gt.2 h2
      refine RunK.run (v := .float .f64 x) (fun w => ?_) (H x (by rw [show max n m = n by omega]; exact hx))
      simp [Builtin.max_, Builtin.max2, ho', e]
    · have hnm : n = m := by omega
      subst hnm
      have e : compare n n = .eq := cmp_eq.2 rfl
      refine RunK.run (v := .float .f64 (if (FloatKind.f64.decode x).neg then y else x)) (fun w => ?_) (H _ (by rw [show max n n = n by omega]; split <;> assumption))
      simp [Builtin.max_, Builtin.max2, ho', e]
end
end Go.Lf
