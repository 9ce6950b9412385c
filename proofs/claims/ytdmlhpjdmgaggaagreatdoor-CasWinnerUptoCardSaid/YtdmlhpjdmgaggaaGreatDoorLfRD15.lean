/-
 The card of the law CasWinner is proved: for every input that its row takes, the function returns true, and leaves what it was given.
-/
import Derived.Test.YtdmlhpjdmgaggaaGreatDoorLfO6
set_option linter.unusedVariables false
set_option linter.unusedSimpArgs false
set_option maxRecDepth 100000
set_option linter.unusedVariables false
set_option linter.unusedSimpArgs false
namespace Go.Proofs.YtdmlhpjdmgaggaaGreatDoor
open Go Go.Lf Go.Lf.G Go.ChangeShapes Go.WideShapes Go.ChangeAt Go.RowKit
theorem own : ownKnob Tryz.prog.godebug = none := by kernel_rfl
theorem Qv (H : Type) (enc : TypeId × Value → H) (W : World) (base : Nat) (args : Array Value) (ds gs : List (DataW H)) (before : List MemPlace)
  (hval : ∀ (j : Nat) t v, Tryz.f3.params[j]? = some t → args[j]? = some v → Value.okWide Tryz.prog W .any base t v)
  (hW : DataW.Whole enc Tryz.prog Tryz.f3.params.toList Rows.casWinnerSpec.vars false W args.toList ds gs before) (hk : Rows.uptoSmall H (ds ++ gs) = true) (hL : laidMetH Tryz.prog listed W) :
  Calls Tryz.prog 3 args W fun e W' => ∃ v, e = .returned v ∧ Rows.casWinnerSpec.post enc Tryz.prog Tryz.f3 false true false false W args v W' := by
 have hW' := hW
 obtain ⟨p, q, hA0, hV, rfl, hfz, hnd⟩ := hW
 have hA : DataW.TrodAll enc Tryz.prog W 0 (fun _ => true) true Tryz.f3.params.toList args.toList ds p := hA0
 rw [Tryz.params3] at hA hval
 obtain ⟨v0, vs0, d0, ds0, p0, q0, hargs, rfl, rfl, h0, r0⟩ := trodAll_cons hA
 obtain ⟨v1, vs1, d1, ds1, p1, q1, rfl, rfl, rfl, h1, r1⟩ := trodAll_cons r0
 obtain ⟨v2, vs2, d2, ds2, p2, q2, rfl, rfl, rfl, h2, r2⟩ := trodAll_cons r1
 obtain ⟨rfl, rfl, rfl⟩ := trodAll_nil r2
 obtain rfl : args = #[v0, v1, v2] := by cases args; simp_all
 obtain ⟨rfl, rfl⟩ := trodVars_none hV
 obtain ⟨s0, l0, rfl, f0, g0⟩ := P5 (hval 0 _ v0 rfl rfl) h0
 obtain ⟨s1, l1, rfl, f1, g1⟩ := ACN (hval 1 _ v1 rfl rfl) h1
 obtain ⟨s2, l2, rfl, f2, g2⟩ := ACN (hval 2 _ v2 rfl rfl) h2
 have hb : Rows.uptoBulkAll ([d0, d1, d2] ++ [] : List (DataW H)) ≤ 1048576 := of_decide_eq_true hk
 simp only [List.append_nil, List.nil_append, List.cons_append, Rows.uptoBulkAll] at hb
 have H0 := AAj (A := O8 W) (h := W.heap) (R := fun v h => v = .bool true ∧ Ext W.heap h) (x0 := s0) (first := l0) (x1 := s1) (keys := l1) (x2 := s2) (vals := l2)
  (ABG hL) f0 f1 f2 (fun k hk => by have := Vq hk; omega) (fun k hk => by have := Vq hk; omega) (by have := AFI l2; omega) (fun h' x => ⟨rfl, x⟩) W.drawn
 refine Calls.mono H0 ?_
 rintro e W' ⟨v, rfl, h', n', rfl, rfl, x⟩
 exact ⟨_, rfl, Ph hW' rfl rfl rfl rfl laid (by kernel_rfl) rfl Ms x⟩
theorem Vf (os : Os) {H : Type} (enc : TypeId × Value → H) : ∃ places, DataW.whole enc Tryz.prog ((Gd os).forCall (fun _ _ => 0) ⟨#[], #[.slice none 0 0, .slice none 0 0, .slice none 0 0], []⟩).memory Tryz.f3.params.toList Rows.casWinnerSpec.vars false (#[.slice none 0 0, .slice none 0 0, .slice none 0 0] : Array Value).toList 8 = some ([.nil, .nil, .nil], [], places) :=
 ⟨[], by kernel_rfl⟩
set_option maxRecDepth 100000 in
theorem UJ (os : Os) (started : os.Started) (H : Type) (enc : TypeId × Value → H) (F : Stop.Interp) :
  ReturnsInHanded {} Tryz.checked os 3 .any ((Rows.OpenSpec.upto Rows.casWinnerSpec).preRow enc Tryz.prog Tryz.f3 Rows.casWinnerUptoRow.domain false Rows.casWinnerUptoRow.laid) (((Rows.OpenSpec.upto Rows.casWinnerSpec).at F).post enc Tryz.prog Tryz.f3 false true false false) := by
 obtain ⟨places, hx⟩ := Vf os enc
 refine returnsInHanded_of_row (C := Tryz.checked) (s := Rows.OpenSpec.upto Rows.casWinnerSpec) own started (by kernel_rfl) Tryz.func3
  (witness_row_at (enc := enc) (C := Tryz.checked) false (Gd os) #[.slice none 0 0, .slice none 0 0, .slice none 0 0] rfl (by kernel_rfl) (by kernel_rfl) (by kernel_rfl)
   (OpenSpec.preRow_of_cond 8 hx (by kernel_rfl) (fun k hk => by cases hk; kernel_rfl) (by kernel_rfl) (LD os _))) ?_
 intro W base args ds gs before hval hW _ hcond _ hL _ _
 exact Qv H enc W base args ds gs before hval hW (hcond _ rfl) hL
theorem Xu : Rows.CasWinnerUptoSaid :=
 OpenClaim.holds_of_cond 3 Tryz.f3 rfl rfl rfl rfl rfl rfl rfl ⟨rfl, rfl, rfl, rfl, rfl⟩ rfl rfl rfl rfl rfl (by kernel_rfl) Tryz.func3 (by kernel_rfl)
  (of_decide_eq_true (by kernel_rfl)) (by unfold Func.isWrapper; first | (rw [if_pos (by decide +kernel)]; kernel_rfl) | (rw [if_neg (by decide +kernel)]; exact ⟨rfl, rfl⟩))
  (fun os started H enc _ F => by rw [OpenClaim.pre_eq_preRow]; exact UJ os started H enc F)
theorem VJ (f : FuncId) (fn : Func) (hf : Tryz.pinned.checked.prog.funcNamed Rows.casWinnerUptoRow.func = some f) (hfn : Tryz.pinned.checked.prog.funcs[f]? = some fn) :
  true = Tryz.pinned.checked.prog.looks [] ∧ ∀ (j : Nat) t, fn.params[j]? = some t → Tryz.pinned.checked.prog.wantsStandIn t = false := by
 obtain rfl : f = 3 := Option.some.inj ((show Tryz.prog.funcNamed Rows.casWinnerUptoRow.func = some 3 by kernel_rfl).symm.trans hf) |>.symm
 obtain rfl : fn = Tryz.f3 := (Option.some.inj (Tryz.func3.symm.trans hfn)).symm
 refine ⟨by kernel_rfl, fun j t ht => ?_⟩
 rw [Tryz.params3] at ht
 have hm := Array.mem_of_getElem? ht
 simp only [List.mem_toArray, List.mem_cons, List.not_mem_nil, or_false] at hm
 rcases hm with hm | hm | hm <;> (subst hm; show _ = false; kernel_rfl)
theorem casWinner_proved : Rows.CasWinnerUptoCardSaid :=
 Claim7.holds_tied_plain_at .later [] _ _ _ _ Xu (fun _ h => by cases h) (by kernel_rfl) (fun _ h => by cases h) casWinnerUpto_row_tie rfl ⟨rfl, rfl⟩ (by kernel_rfl) rfl VJ (by kernel_rfl)
#print axioms casWinner_proved
end Go.Proofs.YtdmlhpjdmgaggaaGreatDoor

