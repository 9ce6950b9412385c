/-
 Whether flat structs are equal; variables of flat structs.
-/
import Derived.Test.YtdmlhpjdmgaggaaGreatDoorLfS1aToU17
import Derived.Laws.StructEq
import Derived.ChangeKeysEq
set_option linter.unusedVariables false
set_option linter.unusedSimpArgs false
set_option maxRecDepth 100000
set_option linter.unusedVariables false
set_option linter.unusedSimpArgs false
namespace Go.Lf
open Go
inductive Fv where
 | i (n : Int)
 | s (x : ByteArray)
 | b (x : Bool)
 deriving DecidableEq
def Fv.v : Fv → Value
 | .i n => .int .i64 n
 | .s x => .string x
 | .b x => .bool x
def Fv.ok (P : Program) (t : TypeId) : Fv → Bool
 | .i _ => match P.underlying t with | some (.int .i64) => true | _ => false
 | .s _ => match P.underlying t with | some .string => true | _ => false
 | .b _ => match P.underlying t with | some .bool => true | _ => false
def AI1 : Fv → Fv → Bool
 | .i _, .i _ => true
 | .s _, .s _ => true
 | .b _, .b _ => true
 | _, _ => false
def ZY (P : Program) : Nat → List Field → List Fv → Bool
 | _, [], [] => true
 | i, f :: fs, x :: xs => !(f.name == String.ofList [Char.ofNat 95]) && Nat.beq f.offset i && x.ok P f.type && ZY P (i + 1) fs xs
 | _, _, _ => false
def sameAll : List Fv → List Fv → Bool
 | [], [] => true
 | x :: xs, y :: ys => AI1 x y && sameAll xs ys
 | _, _ => false
theorem AJ4 {P : Program} {d : Nat} {t : TypeId} {x y : Fv} (hx : x.ok P t = true) (hk : AI1 x y = true) (w : World) : (Op.equalIn (d + 1) t x.v y.v).run P w = .ok (decide (x = y)) w := by
 cases x <;> cases y <;> simp only [AI1, Bool.false_eq_true] at hk <;> simp only [Fv.ok] at hx <;> split at hx <;> (try cases hx)
 ·rename_i n m _ hu
  simp only [Fv.v]
  rw [run_equalIn_int w d t .i64 .i64 n m hu]
  simp only [Fv.i.injEq]; rfl
 ·rename_i a b _ hu
  simp only [Fv.v]
  rw [run_equalIn_string w d t a b hu, toList_inj]
  simp only [Fv.s.injEq]
 ·rename_i a b _ hu
  simp only [Fv.v]
  rw [run_equalIn_bool' w d t a b hu]
  simp only [Fv.b.injEq]
  cases a <;> cases b <;> rfl
theorem Fv.plain {P : Program} {t : TypeId} {x : Fv} (hx : x.ok P t = true) : P.plainKey t = true := by
 cases x <;> simp only [Fv.ok] at hx <;> split at hx <;> (try cases hx) <;> (rename_i hu; simp [Program.plainKey, hu])
theorem AJm {P : Program} {d : Nat} (xs ys : List Fv) (w : World) : ∀ (fs : List Field) (xr yr : List Fv) (i : Nat), xs.drop i = xr → ys.drop i = yr → ZY P i fs xr = true → sameAll xr yr = true →
  (Op.eqFields (d + 1) (xs.map Fv.v).toArray (ys.map Fv.v).toArray fs).run P w = .ok (decide (xr = yr)) w := by
 intro fs
 induction fs with
 | nil =>
  intro xr yr i hx hy hf hs
  cases xr with
  | nil =>
   cases yr with
   | nil => simp [Op.eqFields]
   | cons y yr => simp [sameAll] at hs
  | cons x xr => simp [ZY] at hf
 | cons f fs ih =>
  intro xr yr i hx hy hf hs
  cases xr with
  | nil => simp [ZY] at hf
  | cons x xr =>
   cases yr with
   | nil => simp [sameAll] at hs
   | cons y yr =>
    simp only [ZY, sameAll, Bool.and_eq_true, Nat.beq_eq] at hf hs
    obtain ⟨⟨⟨hn, ho⟩, hok⟩, hr⟩ := hf
    have hxi : xs[i]? = some x := by have := congrArg (fun l : List Fv => l[0]?) hx; simpa [List.getElem?_drop] using this
    have hyi : ys[i]? = some y := by have := congrArg (fun l : List Fv => l[0]?) hy; simpa [List.getElem?_drop] using this
    have hx1 : xs.drop (i + 1) = xr := by rw [← List.drop_drop, hx]; rfl
    have hy1 : ys.drop (i + 1) = yr := by rw [← List.drop_drop, hy]; rfl
    have p1 : (part f.type (xs.map Fv.v).toArray f.offset).run P w = .ok x.v w := run_part_plain w (Fv.plain hok) (by rw [ho]; simp [hxi])
    have p2 : (part f.type (ys.map Fv.v).toArray f.offset).run P w = .ok y.v w := run_part_plain w (Fv.plain hok) (by rw [ho]; simp [hyi])
    have ihh := ih xr yr (i + 1) hx1 hy1 hr hs.2
    have hs1 : String.ofList [Char.ofNat 95] = "_" := by decide
    rw [hs1] at hn
    have hn' : (f.name == "_") = false := by simpa using hn
    simp only [Op.eqFields, hn', Sem.run_bind, Sem.run_ite, p1, p2, Result.andThen_ok, AJ4 hok hs.1]
    by_cases hxy : x = y
    ·simp [hxy, ihh, Result.andThen]
    ·have hn2 : f.name ≠ "_" := by simpa using hn'
     simp [hxy, Result.andThen, hn2]
def eqB (P : Program) (t : TypeId) (xs : List Fv) : Bool := !P.stoodInHeld t && !P.eqGuardType P.depth t && ZY P 0 (P.fieldsOf t).toList xs
theorem AJ5 {A : Amb} {P : Program} {t : TypeId} {o1 o2 : Operand} {xs ys : List Fv} (hu : P.underlying t = some (.struct (P.fieldsOf t))) (hb : eqB P t xs = true) (hs : sameAll xs ys = true) {ax ay : Array Value}
  (hx : ax = (xs.map Fv.v).toArray) (hy : ay = (ys.map Fv.v).toArray) {h : Heap} {K : Value → Heap → Prop} (H : K (.bool (!decide (xs = ys))) h) :
  Ba A P (do eqGuard .neq t o1 o2 (.agg ax) (.agg ay); binOp .neq t (.agg ax) (.agg ay)) h K := by
 simp only [eqB, Bool.and_eq_true, Bool.not_eq_true'] at hb
 subst hx; subst hy
 refine fun n => ⟨_, h, n, ?_, H⟩
 rw [Sem.run_bind, run_eqGuard_agg _ _ _ _ _ _ _ hb.1.2, Result.andThen_ok, run_neq_struct, run_equalIn_agg _ _ _ _ _ hu hb.1.1, AJm xs ys _ _ xs ys 0 rfl rfl hb.2 hs]
 rfl
end Go.Lf

