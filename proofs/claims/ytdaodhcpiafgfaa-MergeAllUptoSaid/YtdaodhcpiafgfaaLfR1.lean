/-
  The statement of the law MergeAll is proved: for every input that its row takes, the function returns true, and leaves what it was given.
-/
import Derived.Test.YtdaodhcpiafgfaaLfM8
import Derived.Test.YtdaodhcpiafgfaaLfM7
set_option maxRecDepth 100000
set_option linter.unusedVariables false
set_option linter.unusedSimpArgs false
namespace Go.Proofs.Ytdaodhcpiafgfaa
open Go Go.Lf Go.Lf.G Go.ChangeShapes Go.WideShapes Go.ChangeAt Go.RowKit
theorem own : ownKnob Try.prog.godebug = none := by kernel_rfl

theorem mergeAll_contract (H : Type) (enc : TypeId × Value → H) (W : World) (base : Nat) (args : Array Value) (ds gs : List (DataW H)) (before : List MemPlace)
    (hval : ∀ (j : Nat) t v, Try.f3.params[j]? = some t → args[j]? = some v → Value.okWide Try.prog W .any base t v)
    (hW : DataW.Whole enc Try.prog Try.f3.params.toList Rows.mergeAllSpec.vars false W args.toList ds gs before) (hk : Rows.uptoSmall H (ds ++ gs) = true) :
    Calls Try.prog 3 args W fun e W' => ∃ v, e = .returned v ∧ Rows.mergeAllSpec.post enc Try.prog Try.f3 false true false false W args v W' := by
  have hW' := hW
  obtain ⟨p, q, hA0, hV, rfl, hfz, hnd⟩ := hW
  have hA : DataW.TrodAll enc Try.prog W 0 (fun _ => true) true Try.f3.params.toList args.toList ds p := hA0
  rw [Try.params3] at hA hval
  obtain ⟨v0, vs0, d0, ds0, p0, q0, hargs, rfl, rfl, h0, r0⟩ := trodAll_cons hA
  obtain ⟨rfl, rfl, rfl⟩ := trodAll_nil r0
  obtain rfl : args = #[v0] := by cases args; simp_all
  obtain ⟨rfl, rfl⟩ := trodVars_none hV
  obtain ⟨s0, l0, rfl, f0, g0, e0⟩ := arg_lists (hval 0 _ v0 rfl rfl) h0
  have hb : Rows.uptoBulkAll ([d0] ++ [] : List (DataW H)) ≤ 1048576 := of_decide_eq_true hk
  simp only [List.append_nil, List.nil_append, List.cons_append, Rows.uptoBulkAll] at hb
  have H0 := MergeAll_ok (A := ambOf W) (h := W.heap) (R := fun v h => v = .bool true ∧ Ext W.heap h) (s := s0) (ls := l0)
    f0 (by omega) (by omega) (fun h' x => ⟨rfl, x⟩) W.drawn
  refine Calls.mono H0 ?_
  rintro e W' ⟨v, rfl, h', n', rfl, rfl, x⟩
  exact ⟨_, rfl, row_post hW' rfl rfl rfl rfl laid (by kernel_rfl) rfl P_bool x⟩

set_option maxRecDepth 100000 in
theorem mergeAll_lifted (os : Os) (started : os.Started) (H : Type) (enc : TypeId × Value → H) (F : Stop.Interp) :
    ReturnsInHanded {} Try.checked os 3 .any ((Rows.OpenSpec.upto Rows.mergeAllSpec).pre6 enc Try.prog Try.f3 Rows.mergeAllUptoRow.domain false) (((Rows.OpenSpec.upto Rows.mergeAllSpec).at F).post enc Try.prog Try.f3 false true false false) := by
  refine returnsInHanded_of_cond (C := Try.checked) (s := Rows.OpenSpec.upto Rows.mergeAllSpec) (k := Rows.uptoSmall) rfl own started (by kernel_rfl) Try.func3
    (OpenSpec.witness (enc := enc) (C := Try.checked) (s := Rows.OpenSpec.upto Rows.mergeAllSpec) (k := Rows.uptoSmall) rfl false ⟨#[], #[.slice none 0 0], []⟩ 8 (by kernel_rfl) (by kernel_rfl) (by kernel_rfl)
      (x := ([.nil], [], [])) (by kernel_rfl) rfl (by kernel_rfl)) ?_
  intro W base args ds gs before hval hW _ hk _
  exact mergeAll_contract H enc W base args ds gs before hval hW hk

theorem mergeAll_proved : Rows.MergeAllUptoSaid :=
  OpenClaim.holds_of_cond 3 Try.f3 rfl rfl rfl rfl rfl rfl rfl ⟨rfl, rfl, rfl, rfl, rfl⟩ rfl rfl rfl rfl rfl (by kernel_rfl) Try.func3 (by kernel_rfl)
    (of_decide_eq_true (by kernel_rfl)) (by unfold Func.isWrapper; first | (rw [if_pos (by decide +kernel)]; kernel_rfl) | (rw [if_neg (by decide +kernel)]; exact ⟨rfl, rfl⟩))
    (fun os started H enc _ F => mergeAll_lifted os started H enc F)

#print axioms mergeAll_proved
end Go.Proofs.Ytdaodhcpiafgfaa
