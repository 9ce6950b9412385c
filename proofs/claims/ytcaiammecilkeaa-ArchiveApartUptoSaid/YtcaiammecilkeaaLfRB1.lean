/-
  The statement of the law ArchiveApart is proved: for every input that its row takes, the function returns true, and leaves what it was given.
-/
import Derived.Test.YtcaiammecilkeaaLfO1
import Derived.Test.YtcaiammecilkeaaLfV10
set_option maxRecDepth 100000
set_option linter.unusedVariables false
set_option linter.unusedSimpArgs false
namespace Go.Proofs.Ytcaiammecilkeaa
open Go Go.Lf Go.Lf.G Go.ChangeShapes Go.WideShapes Go.ChangeAt Go.RowKit
theorem sum_mem20 {l : List ByteArray} {x : ByteArray} (h : x ∈ l) : x.size + 1 ≤ (l.map (·.size + 1)).sum := by
  induction l with
  | nil => cases h
  | cons y l ih =>
    simp only [List.map_cons, List.sum_cons]
    rcases List.mem_cons.1 h with rfl | h
    · omega
    · have := ih h; omega
theorem sum_len20 (l : List ByteArray) : l.length ≤ (l.map (·.size + 1)).sum := by
  induction l with
  | nil => simp
  | cons y l ih => simp only [List.map_cons, List.sum_cons, List.length_cons]; omega
theorem own : ownKnob Try.prog.godebug = none := by kernel_rfl

theorem archiveApart_contract (H : Type) (enc : TypeId × Value → H) (W : World) (base : Nat) (args : Array Value) (ds gs : List (DataW H)) (before : List MemPlace)
    (hval : ∀ (j : Nat) t v, Try.f3.params[j]? = some t → args[j]? = some v → Value.okWide Try.prog W .any base t v)
    (hW : DataW.Whole enc Try.prog Try.f3.params.toList Rows.archiveApartSpec.vars false W args.toList ds gs before) (hk : Rows.uptoSmall H (ds ++ gs) = true) :
    Calls Try.prog 3 args W fun e W' => ∃ v, e = .returned v ∧ Rows.archiveApartSpec.post enc Try.prog Try.f3 false true false false W args v W' := by
  have hW' := hW
  obtain ⟨p, q, hA0, hV, rfl, hfz, hnd⟩ := hW
  have hA : DataW.TrodAll enc Try.prog W 0 (fun _ => true) true Try.f3.params.toList args.toList ds p := hA0
  rw [Try.params3] at hA hval
  obtain ⟨v0, vs0, d0, ds0, p0, q0, hargs, rfl, rfl, h0, r0⟩ := trodAll_cons hA
  obtain ⟨v1, vs1, d1, ds1, p1, q1, rfl, rfl, rfl, h1, r1⟩ := trodAll_cons r0
  obtain ⟨rfl, rfl, rfl⟩ := trodAll_nil r1
  obtain rfl : args = #[v0, v1] := by cases args; simp_all
  obtain ⟨rfl, rfl⟩ := trodVars_none hV
  obtain ⟨s0, l0, rfl, f0, g0⟩ := arg_strs (hval 0 _ v0 rfl rfl) h0
  obtain ⟨s1, l1, rfl, f1, g1⟩ := arg_ints (hval 1 _ v1 rfl rfl) h1
  have hb : Rows.uptoBulkAll ([d0, d1] ++ [] : List (DataW H)) ≤ 1048576 := of_decide_eq_true hk
  simp only [List.append_nil, List.nil_append, List.cons_append, Rows.uptoBulkAll] at hb
  have hm : ∀ x ∈ l0, x.size + 1 ≤ (l0.map (·.size + 1)).sum := fun x hx => sum_mem20 hx
  have H0 := ArchiveApart_ok (A := ambOf W) (h := W.heap) (R := fun v h => v = .bool true ∧ Ext W.heap h) (wids := s0) (l := l0) (sigs := s1) (sg := l1)
    f0 f1 (by have := sum_len20 l0; omega) (by omega) (fun x hx => by have := hm x hx; omega) (fun h' x => ⟨rfl, x⟩) W.drawn
  refine Calls.mono H0 ?_
  rintro e W' ⟨v, rfl, h', n', rfl, rfl, x⟩
  exact ⟨_, rfl, row_post hW' rfl rfl rfl rfl laid (by kernel_rfl) rfl P_bool x⟩

set_option maxRecDepth 100000 in
theorem archiveApart_lifted (os : Os) (started : os.Started) (H : Type) (enc : TypeId × Value → H) (F : Stop.Interp) :
    ReturnsInHanded {} Try.checked os 3 .any ((Rows.OpenSpec.upto Rows.archiveApartSpec).pre6 enc Try.prog Try.f3 Rows.archiveApartUptoRow.domain false) (((Rows.OpenSpec.upto Rows.archiveApartSpec).at F).post enc Try.prog Try.f3 false true false false) := by
  refine returnsInHanded_of_cond (C := Try.checked) (s := Rows.OpenSpec.upto Rows.archiveApartSpec) (k := Rows.uptoSmall) rfl own started (by kernel_rfl) Try.func3
    (OpenSpec.witness (enc := enc) (C := Try.checked) (s := Rows.OpenSpec.upto Rows.archiveApartSpec) (k := Rows.uptoSmall) rfl false ⟨#[], #[.slice none 0 0, .slice none 0 0], []⟩ 8 (by kernel_rfl) (by kernel_rfl) (by kernel_rfl)
      (x := ([.nil, .nil], [], [])) (by kernel_rfl) rfl (by kernel_rfl)) ?_
  intro W base args ds gs before hval hW _ hk _
  exact archiveApart_contract H enc W base args ds gs before hval hW hk

theorem archiveApart_proved : Rows.ArchiveApartUptoSaid :=
  OpenClaim.holds_of_cond 3 Try.f3 rfl rfl rfl rfl rfl rfl rfl ⟨rfl, rfl, rfl, rfl, rfl⟩ rfl rfl rfl rfl rfl (by kernel_rfl) Try.func3 (by kernel_rfl)
    (of_decide_eq_true (by kernel_rfl)) (by unfold Func.isWrapper; first | (rw [if_pos (by decide +kernel)]; kernel_rfl) | (rw [if_neg (by decide +kernel)]; exact ⟨rfl, rfl⟩))
    (fun os started H enc _ F => archiveApart_lifted os started H enc F)

#print axioms archiveApart_proved
end Go.Proofs.Ytcaiammecilkeaa
