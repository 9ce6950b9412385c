/-
 Arguments of the statement LsmCrashes, opened.
-/
import Derived.Test.YteecdmkgblonnaaGreatDoorLfO2ToO3
import Derived.Test.YteecdmkgblonnaaGreatDoorLfQ8
set_option linter.unusedVariables false
set_option linter.unusedSimpArgs false
set_option maxRecDepth 100000
set_option linter.unusedVariables false
set_option linter.unusedSimpArgs false
namespace Go.Lf.G
open Go Go.ChangeShapes Go.WideShapes Go.ChangeAt Go.RowKit Go.Proofs.YteecdmkgblonnaaGreatDoor
theorem P_brk : fieldsOf P t_wherrylaw09_Broken = some [(t_int, 0), (t_sl_int, 1), (t_int, 2), (t_sl_int, 3)] := by kernel_rfl
theorem P_cbrk : P.cellsOf t_wherrylaw09_Broken = BrkE.w := by kernel_rfl
theorem P_slbrk : P.underlying t_sl_wherrylaw09_Broken = some (.slice t_wherrylaw09_Broken) := by kernel_rfl
section
variable {H : Type} {enc : TypeId × Value → H} {w : World} {base : Nat} {spare : Nat → Bool} {held : Bool}
theorem open_brk {n : Nat} {cs : List Value} {x : DataW H × List MemPlace} (h : DataW.trod enc P w base spare held n t_wherrylaw09_Broken cs = some x) :
  ∃ y : BrkC, cs = BrkE.enc y ∧ BrkOk w.heap y := by
 obtain ⟨xs, m, hx, h1, h2, h3⟩ := open_fields P_brk h
 rw [P_cbrk] at h1
 match cs, h1 with
 | [c0, c1, c2, c3], _ =>
  match xs, h2 with
  | [x0, x1, x2, x3], _ =>
   have k0 := h3 0 _ rfl
   have k1 := h3 1 _ rfl
   have k2 := h3 2 _ rfl
   have k3 := h3 3 _ rfl
   simp only [P_ci, P_csli] at k0 k1 k2 k3
   obtain ⟨n0, e0, _, w0⟩ := DataW.trod_int P_int k0
   obtain ⟨s1, e1⟩ := open_slcs P_slint k1
   obtain ⟨n2, e2, _, w2⟩ := DataW.trod_int P_int k2
   obtain ⟨s3, e3⟩ := open_slcs P_slint k3
   have e1' : [c1] = [.slice s1.p s1.len s1.cap] := e1
   have e3' : [c3] = [.slice s3.p s3.len s3.cap] := e3
   simp at e0 e1 e2 e3
   subst e0 e1 e2 e3
   obtain ⟨l1, v1, _, _⟩ := open_ints (p := s1.p) (len := s1.len) (cap := s1.cap) k1
   obtain ⟨l3, v3, _, _⟩ := open_ints (p := s3.p) (len := s3.len) (cap := s3.cap) k3
   exact ⟨⟨n0, s1, n2, s3⟩, rfl, ⟨l1, v1⟩, ⟨l3, v3⟩, (wf_i64 w0).2, (wf_i64 w2).2⟩
end
theorem arg_brks {H : Type} {enc : TypeId × Value → H} {W : World} {base : Nat} {v : Value} {d : DataW H} {ps : List MemPlace} (hv : Value.okWide P W .any base t_sl_wherrylaw09_Broken v) (h : DataW.Trod enc P W 0 (fun _ => true) true t_sl_wherrylaw09_Broken v d ps) :
  ∃ (s : Sl) (l : List BrkC), v = .slice s.p s.len s.cap ∧ View BrkE W.heap s l ∧ ∀ x ∈ l, BrkOk W.heap x := by
 obtain ⟨p, len, cap, rfl⟩ := okWide_slice P_slbrk hv
 obtain ⟨n, hn⟩ := h
 obtain ⟨l, ds, V, hl, hq, _⟩ := open_sl (E := BrkE) (Q := fun y _ => BrkOk W.heap y) P_slbrk P_cbrk (fun n cs x hx => open_brk hx) hn
 refine ⟨⟨p, len, cap⟩, l, rfl, V, fun x hx => ?_⟩
 obtain ⟨_, _, h⟩ := mem_bulk hl hq hx
 exact h
end Go.Lf.G

