/-
  The statement of the law ArchiveKeeps is proved: for every input that its row takes, the function returns true, and leaves what it was given.
-/
import Derived.Test.YtcaiammecilkeaaLfU11ToU3
import Derived.Test.YtcaiammecilkeaaLfW9ToW17
set_option maxRecDepth 100000
set_option linter.unusedVariables false
set_option linter.unusedSimpArgs false
namespace Go.Proofs.Ytcaiammecilkeaa
open Go Go.Lf Go.Lf.G Go.ChangeShapes Go.WideShapes Go.ChangeAt Go.RowKit
theorem own : ownKnob Try.prog.godebug = none := by kernel_rfl

theorem archiveKeeps_contract (H : Type) (enc : TypeId × Value → H) (W : World) (base : Nat) (args : Array Value) (ds gs : List (DataW H)) (before : List MemPlace)
    (hval : ∀ (j : Nat) t v, Try.f4.params[j]? = some t → args[j]? = some v → Value.okWide Try.prog W .any base t v)
    (hW : DataW.Whole enc Try.prog Try.f4.params.toList Rows.archiveKeepsSpec.vars false W args.toList ds gs before) (hk : Rows.uptoSmall H (ds ++ gs) = true) :
    Calls Try.prog 4 args W fun e W' => ∃ v, e = .returned v ∧ Rows.archiveKeepsSpec.post enc Try.prog Try.f4 false true false false W args v W' := by
  have hW' := hW
  obtain ⟨p, q, hA0, hV, rfl, hfz, hnd⟩ := hW
  have hA : DataW.TrodAll enc Try.prog W 0 (fun _ => true) true Try.f4.params.toList args.toList ds p := hA0
  rw [Try.params4] at hA hval
  obtain ⟨v0, vs0, d0, ds0, p0, q0, hargs, rfl, rfl, h0, r0⟩ := trodAll_cons hA
  obtain ⟨v1, vs1, d1, ds1, p1, q1, rfl, rfl, rfl, h1, r1⟩ := trodAll_cons r0
  obtain ⟨v2, vs2, d2, ds2, p2, q2, rfl, rfl, rfl, h2, r2⟩ := trodAll_cons r1
  obtain ⟨rfl, rfl, rfl⟩ := trodAll_nil r2
  obtain rfl : args = #[v0, v1, v2] := by cases args; simp_all
  obtain ⟨rfl, rfl⟩ := trodVars_none hV
  obtain ⟨s0, rfl, g0⟩ := arg_str (hval 0 _ v0 rfl rfl) h0
  obtain ⟨s1, l1, rfl, f1, g1⟩ := arg_evs (hval 1 _ v1 rfl rfl) h1
  obtain ⟨s2, rfl, g2⟩ := arg_str (hval 2 _ v2 rfl rfl) h2
  have hb : Rows.uptoBulkAll ([d0, d1, d2] ++ [] : List (DataW H)) ≤ 1048576 := of_decide_eq_true hk
  simp only [List.append_nil, List.nil_append, List.cons_append, Rows.uptoBulkAll] at hb
  have hm : ∀ x ∈ l1, x.data.size + 1 ≤ (l1.map (·.data.size + 1)).sum := fun x hx => sum_memE hx
  have H0 := ArchiveKeeps_ok (A := ambOf W) (h := W.heap) (R := fun v h => v = .bool true ∧ Ext W.heap h) (w := s0) (sl := s1) (l := l1) (s := s2)
    f1 (by omega) (by omega) (by have := sum_lenE l1; omega) (fun x hx => by have := hm x hx; omega) (fun h' x => ⟨rfl, x⟩) W.drawn
  refine Calls.mono H0 ?_
  rintro e W' ⟨v, rfl, h', n', rfl, rfl, x⟩
  exact ⟨_, rfl, row_post hW' rfl rfl rfl rfl laid (by kernel_rfl) rfl P_bool x⟩

set_option maxRecDepth 100000 in
theorem archiveKeeps_lifted (os : Os) (started : os.Started) (H : Type) (enc : TypeId × Value → H) (F : Stop.Interp) :
    ReturnsInHanded {} Try.checked os 4 .any ((Rows.OpenSpec.upto Rows.archiveKeepsSpec).pre6 enc Try.prog Try.f4 Rows.archiveKeepsUptoRow.domain false) (((Rows.OpenSpec.upto Rows.archiveKeepsSpec).at F).post enc Try.prog Try.f4 false true false false) := by
  refine returnsInHanded_of_cond (C := Try.checked) (s := Rows.OpenSpec.upto Rows.archiveKeepsSpec) (k := Rows.uptoSmall) rfl own started (by kernel_rfl) Try.func4
    (OpenSpec.witness (enc := enc) (C := Try.checked) (s := Rows.OpenSpec.upto Rows.archiveKeepsSpec) (k := Rows.uptoSmall) rfl false ⟨#[], #[.string ⟨#[]⟩, .slice none 0 0, .string ⟨#[]⟩], []⟩ 8 (by kernel_rfl) (by kernel_rfl) (by kernel_rfl)
      (x := ([.lit (.string []), .nil, .lit (.string [])], [], [])) (by kernel_rfl) rfl (by kernel_rfl)) ?_
  intro W base args ds gs before hval hW _ hk _
  exact archiveKeeps_contract H enc W base args ds gs before hval hW hk

theorem archiveKeeps_proved : Rows.ArchiveKeepsUptoSaid :=
  OpenClaim.holds_of_cond 4 Try.f4 rfl rfl rfl rfl rfl rfl rfl ⟨rfl, rfl, rfl, rfl, rfl⟩ rfl rfl rfl rfl rfl (by kernel_rfl) Try.func4 (by kernel_rfl)
    (of_decide_eq_true (by kernel_rfl)) (by unfold Func.isWrapper; first | (rw [if_pos (by decide +kernel)]; kernel_rfl) | (rw [if_neg (by decide +kernel)]; exact ⟨rfl, rfl⟩))
    (fun os started H enc _ F => archiveKeeps_lifted os started H enc F)

#print axioms archiveKeeps_proved
end Go.Proofs.Ytcaiammecilkeaa

