/-
 The card of the law CasRefused is proved: for every input that its row takes, the function returns true, and leaves what it was given.
-/
import Derived.Test.YtdmlhpjdmgaggaaGreatDoorLfO6
set_option linter.unusedVariables false
set_option linter.unusedSimpArgs false
set_option maxRecDepth 100000
set_option linter.unusedVariables false
set_option linter.unusedSimpArgs false
namespace Go.Proofs.YtdmlhpjdmgaggaaGreatDoor
open Go Go.Lf Go.Lf.G Go.ChangeShapes Go.WideShapes Go.ChangeAt Go.RowKit
theorem own : ownKnob Tryz.prog.godebug = none := by kernel_rfl
theorem QV (H : Type) (enc : TypeId × Value → H) (W : World) (base : Nat) (args : Array Value) (ds gs : List (DataW H)) (before : List MemPlace)
  (hval : ∀ (j : Nat) t v, Tryz.f4.params[j]? = some t → args[j]? = some v → Value.okWide Tryz.prog W .any base t v)
  (hW : DataW.Whole enc Tryz.prog Tryz.f4.params.toList Rows.casRefusedSpec.vars false W args.toList ds gs before) (hk : Rows.uptoSmall H (ds ++ gs) = true) (hL : laidMetH Tryz.prog listed W) :
  Calls Tryz.prog 4 args W fun e W' => ∃ v, e = .returned v ∧ Rows.casRefusedSpec.post enc Tryz.prog Tryz.f4 false true false false W args v W' := by
 have hW' := hW
 obtain ⟨p, q, hA0, hV, rfl, hfz, hnd⟩ := hW
 have hA : DataW.TrodAll enc Tryz.prog W 0 (fun _ => true) true Tryz.f4.params.toList args.toList ds p := hA0
 rw [Tryz.params4] at hA hval
 obtain ⟨v0, vs0, d0, ds0, p0, q0, hargs, rfl, rfl, h0, r0⟩ := trodAll_cons hA
 obtain ⟨rfl, rfl, rfl⟩ := trodAll_nil r0
 obtain rfl : args = #[v0] := by cases args; simp_all
 obtain ⟨rfl, rfl⟩ := trodVars_none hV
 obtain ⟨s0, l0, rfl, f0, g0⟩ := AEX (hval 0 _ v0 rfl rfl) h0
 have hb : Rows.uptoBulkAll ([d0] ++ [] : List (DataW H)) ≤ 1048576 := of_decide_eq_true hk
 simp only [List.append_nil, List.nil_append, List.cons_append, Rows.uptoBulkAll] at hb
 have H0 := YB (A := O8 W) (h := W.heap) (R := fun v h => v = .bool true ∧ Ext W.heap h) (s := s0) (l := l0)
  (ABG hL) f0 (fun k hk => by have := Vq hk; omega) (fun h' x => ⟨rfl, x⟩) W.drawn
 refine Calls.mono H0 ?_
 rintro e W' ⟨v, rfl, h', n', rfl, rfl, x⟩
 exact ⟨_, rfl, Ph hW' rfl rfl rfl rfl laid (by kernel_rfl) rfl Ms x⟩
theorem UI (os : Os) {H : Type} (enc : TypeId × Value → H) : ∃ places, DataW.whole enc Tryz.prog ((Gd os).forCall (fun _ _ => 0) ⟨#[], #[.agg #[.slice none 0 0, .slice none 0 0, .slice none 0 0, .int .i64 0]], []⟩).memory Tryz.f4.params.toList Rows.casRefusedSpec.vars false (#[.agg #[.slice none 0 0, .slice none 0 0, .slice none 0 0, .int .i64 0]] : Array Value).toList 8 = some ([.agg [.nil, .nil, .nil, .lit (.int .i64 0)]], [], places) :=
 ⟨[], by kernel_rfl⟩
set_option maxRecDepth 100000 in
theorem SX (os : Os) (started : os.Started) (H : Type) (enc : TypeId × Value → H) (F : Stop.Interp) :
  ReturnsInHanded {} Tryz.checked os 4 .any ((Rows.OpenSpec.upto Rows.casRefusedSpec).preRow enc Tryz.prog Tryz.f4 Rows.casRefusedUptoRow.domain false Rows.casRefusedUptoRow.laid) (((Rows.OpenSpec.upto Rows.casRefusedSpec).at F).post enc Tryz.prog Tryz.f4 false true false false) := by
 obtain ⟨places, hx⟩ := UI os enc
 refine returnsInHanded_of_row (C := Tryz.checked) (s := Rows.OpenSpec.upto Rows.casRefusedSpec) own started (by kernel_rfl) Tryz.func4
  (witness_row_at (enc := enc) (C := Tryz.checked) false (Gd os) #[.agg #[.slice none 0 0, .slice none 0 0, .slice none 0 0, .int .i64 0]] rfl (by kernel_rfl) (by kernel_rfl) (by kernel_rfl)
   (OpenSpec.preRow_of_cond 8 hx (by kernel_rfl) (fun k hk => by cases hk; kernel_rfl) (by kernel_rfl) (LD os _))) ?_
 intro W base args ds gs before hval hW _ hcond _ hL _ _
 exact QV H enc W base args ds gs before hval hW (hcond _ rfl) hL
theorem VY : Rows.CasRefusedUptoSaid :=
 OpenClaim.holds_of_cond 4 Tryz.f4 rfl rfl rfl rfl rfl rfl rfl ⟨rfl, rfl, rfl, rfl, rfl⟩ rfl rfl rfl rfl rfl (by kernel_rfl) Tryz.func4 (by kernel_rfl)
  (of_decide_eq_true (by kernel_rfl)) (by unfold Func.isWrapper; first | (rw [if_pos (by decide +kernel)]; kernel_rfl) | (rw [if_neg (by decide +kernel)]; exact ⟨rfl, rfl⟩))
  (fun os started H enc _ F => by rw [OpenClaim.pre_eq_preRow]; exact SX os started H enc F)
theorem Td (f : FuncId) (fn : Func) (hf : Tryz.pinned.checked.prog.funcNamed Rows.casRefusedUptoRow.func = some f) (hfn : Tryz.pinned.checked.prog.funcs[f]? = some fn) :
  true = Tryz.pinned.checked.prog.looks [] ∧ ∀ (j : Nat) t, fn.params[j]? = some t → Tryz.pinned.checked.prog.wantsStandIn t = false := by
 obtain rfl : f = 4 := Option.some.inj ((show Tryz.prog.funcNamed Rows.casRefusedUptoRow.func = some 4 by kernel_rfl).symm.trans hf) |>.symm
 obtain rfl : fn = Tryz.f4 := (Option.some.inj (Tryz.func4.symm.trans hfn)).symm
 refine ⟨by kernel_rfl, fun j t ht => ?_⟩
 rw [Tryz.params4] at ht
 have hm := Array.mem_of_getElem? ht
 simp only [List.mem_toArray, List.mem_cons, List.not_mem_nil, or_false] at hm
 subst hm; show _ = false; kernel_rfl
theorem casRefused_proved : Rows.CasRefusedUptoCardSaid :=
 Claim7.holds_tied_plain_at .later [] _ _ _ _ VY (fun _ h => by cases h) (by kernel_rfl) (fun _ h => by cases h) casRefusedUpto_row_tie rfl ⟨rfl, rfl⟩ (by kernel_rfl) rfl Td (by kernel_rfl)
#print axioms casRefused_proved
end Go.Proofs.YtdmlhpjdmgaggaaGreatDoor

