/-
 Arguments of CasRefused and CasWinner, opened.
-/
import Derived.Test.YtdmlhpjdmgaggaaGreatDoorLfM8ToO5
import Derived.Test.YtdmlhpjdmgaggaaGreatDoorLfQ14
set_option linter.unusedVariables false
set_option linter.unusedSimpArgs false
set_option maxRecDepth 100000
set_option linter.unusedVariables false
set_option linter.unusedSimpArgs false
namespace Go.Lf.G
open Go Go.ChangeShapes Go.WideShapes Go.ChangeAt Go.RowKit Go.Proofs.YtdmlhpjdmgaggaaGreatDoor
theorem AIE : fieldsOf P Cr = some [(AP, 0), (A8, 1), (AP, 2), (BO, 3)] := by kernel_rfl
theorem AGN : ∃ fs, P.underlying Cr = some (.struct fs) := ⟨_, Proofs.Tryz.underlying47⟩
theorem AGR : P.cellsOf Cr = 4 := by kernel_rfl
theorem AKT : P.cellsOf A8 = 1 := by kernel_rfl
theorem Vq {k : ByteArray} : ∀ {l : List ByteArray}, k ∈ l → k.size + 1 ≤ (l.map (·.size + 1)).sum
 | x :: l, h => by
  rw [List.map_cons, List.sum_cons]
  rcases List.mem_cons.1 h with rfl | h
  ·omega
  ·have := Vq h; omega
theorem AFI : ∀ (l : List ByteArray), l.length ≤ (l.map (·.size + 1)).sum
 | [] => by simp
 | x :: l => by
  have := AFI l
  rw [List.map_cons, List.sum_cons, List.length_cons]; omega
theorem AEX {H : Type} {enc : TypeId × Value → H} {W : World} {base : Nat} {v : Value} {d : DataW H} {ps : List MemPlace} (hv : Value.okWide P W .any base Cr v) (h : DataW.Trod enc P W 0 (fun _ => true) true Cr v d ps) :
  ∃ (s : (Sl × Sl) × (Sl × Int)) (l : (List Pr × List ByteArray) × List Pr), v = .agg #[.slice s.1.1.p s.1.1.len s.1.1.cap, .slice s.1.2.p s.1.2.len s.1.2.cap, .slice s.2.1.p s.2.1.len s.2.1.cap, .int .i64 s.2.2] ∧ (View Af W.heap s.1.1 l.1.1 ∧ View EC W.heap s.1.2 l.1.2 ∧ View Af W.heap s.2.1 l.2) ∧ (l.1.2.map (·.size + 1)).sum + 1 ≤ Rows.uptoBulk d := by
 obtain ⟨fs, hfs⟩ := AGN
 obtain ⟨cs, rfl, hcs⟩ := okWide_struct hfs hv
 obtain ⟨n, hn⟩ := h
 have hcl : (Value.agg cs).cells.toList = cs.toList := rfl
 rw [hcl] at hn
 obtain ⟨xs, m, hx, h1, h2, h3⟩ := Ot AIE hn
 have hd : d = .agg (xs.map (·.1)) := congrArg Prod.fst hx
 subst hd
 rw [AGR] at h1
 obtain ⟨cl⟩ := cs
 match cl, h1 with
 | [c0, c1, c2, c3], _ =>
  match xs, h2 with
  | [x0, x1, x2, x3], _ =>
   have k0 := h3 0 _ rfl
   have k1 := h3 1 _ rfl
   have k2 := h3 2 _ rfl
   have k3 := h3 3 _ rfl
   simp only [AHj, AK8, AKT] at k0 k1 k2 k3
   obtain ⟨s0, e0⟩ := MK M.XE k0
   obtain ⟨s1, e1⟩ := MK AAb k1
   obtain ⟨s2, e2⟩ := MK M.XE k2
   obtain ⟨n3, e3, _, _⟩ := DataW.trod_int AAY k3
   have e0' : [c0] = [.slice s0.p s0.len s0.cap] := e0
   have e1' : [c1] = [.slice s1.p s1.len s1.cap] := e1
   have e2' : [c2] = [.slice s2.p s2.len s2.cap] := e2
   simp at e0 e1 e2 e3
   subst e0 e1 e2 e3
   obtain ⟨l0, v0, _⟩ := TN (p := s0.p) (len := s0.len) (cap := s0.cap) k0
   obtain ⟨l1, v1, b1⟩ := open_strs (p := s1.p) (len := s1.len) (cap := s1.cap) k1
   obtain ⟨l2, v2, _⟩ := TN (p := s2.p) (len := s2.len) (cap := s2.cap) k2
   refine ⟨((s0, s1), (s2, n3)), ((l0, l1), l2), rfl, ⟨v0, v1, v2⟩, ?_⟩
   simp only [List.map_cons, List.map_nil, Rows.uptoBulk, Rows.uptoBulkAll]
   omega
theorem YB {A : Amb} {h : Heap} {s : (Sl × Sl) × (Sl × Int)} {l : (List Pr × List ByteArray) × List Pr} {R : Value → Heap → Prop} (E : Evn h) (f : View Af h s.1.1 l.1.1 ∧ View EC h s.1.2 l.1.2 ∧ View Af h s.2.1 l.2) (hk : ∀ k ∈ l.1.2, k.size ≤ 1048576)
  (H : ∀ h', Ext h h' → R (.bool true) h') : AA A P Dc #[.agg #[.slice s.1.1.p s.1.1.len s.1.1.cap, .slice s.1.2.p s.1.2.len s.1.2.cap, .slice s.2.1.p s.2.1.len s.2.1.cap, .int .i64 s.2.2]] h R :=
 Y0 E f.1 f.2.1 f.2.2 hk H
end Go.Lf.G

