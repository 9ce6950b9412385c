/-
  Calls of the box's statements, opened.
-/
import Derived.Test.YtnphbdfmdboniaaLfO1
import Derived.Test.YtnphbdfmdboniaaLfS8
set_option maxRecDepth 100000
set_option linter.unusedVariables false
set_option linter.unusedSimpArgs false
namespace Go.Lf.G
open Go Go.ChangeShapes Go.WideShapes Go.ChangeAt Go.RowKit Go.Proofs.Ytnphbdfmdboniaa

theorem P_call : P.underlying t_wherrylaw03_Call = some (.struct (P.fieldsOf t_wherrylaw03_Call)) := by kernel_rfl
theorem P_call4 : (P.fieldsOf t_wherrylaw03_Call).toList.map (fun f => (f.type, f.offset)) = [(t_int, 0), (t_string, 1), (t_string, 2), (t_int, 3), (t_sl_int, 4)] := by kernel_rfl
theorem P_ccall : P.cellsOf t_wherrylaw03_Call = 5 := by kernel_rfl
theorem P_csli : P.cellsOf t_sl_int = 1 := by kernel_rfl
theorem P_slcall : P.underlying t_sl_wherrylaw03_Call = some (.slice t_wherrylaw03_Call) := by kernel_rfl

theorem field_at {fs : Array Field} {l : List (TypeId × Nat)} (h : fs.toList.map (fun f => (f.type, f.offset)) = l) {i : Nat} {x : TypeId × Nat} (hi : l[i]? = some x) : ∃ f, fs[i]? = some f ∧ f.type = x.1 ∧ f.offset = x.2 := by
  rw [← h, List.getElem?_map] at hi
  cases hf : fs.toList[i]? with
  | none => rw [hf] at hi; cases hi
  | some f =>
    rw [hf] at hi
    refine ⟨f, by simpa using hf, ?_, ?_⟩ <;> (simp at hi; rw [← hi])

section
variable {H : Type} {enc : TypeId × Value → H} {w : World} {base : Nat} {spare : Nat → Bool} {held : Bool}
theorem open_cl {n : Nat} {cs : List Value} {x : DataW H × List MemPlace} (h : DataW.trod enc P w base spare held n t_wherrylaw03_Call cs = some x) :
    ∃ y : Cl, cs = ClE.enc y ∧ (y.data.size + 1 ≤ Rows.uptoBulk x.1 ∧ y.n ≤ 9223372036854775807 ∧ ∃ ks, View IntE w.heap y.keep ks) := by
  obtain ⟨xs, m, _, hx, hl, hxl, hf⟩ := DataW.trod_struct P_call h
  rw [P_ccall] at hl
  have hsz : (P.fieldsOf t_wherrylaw03_Call).size = 5 := by have := congrArg List.length P_call4; simpa using this
  rw [hsz] at hxl
  obtain ⟨q0, a0, b0, c0⟩ := field_at P_call4 (i := 0) rfl
  obtain ⟨q1, a1, b1, c1⟩ := field_at P_call4 (i := 1) rfl
  obtain ⟨q2, a2, b2, c2⟩ := field_at P_call4 (i := 2) rfl
  obtain ⟨q3, a3, b3, c3⟩ := field_at P_call4 (i := 3) rfl
  obtain ⟨q4, a4, b4, c4⟩ := field_at P_call4 (i := 4) rfl
  have f0 := hf 0 _ a0
  have f1 := hf 1 _ a1
  have f2 := hf 2 _ a2
  have f3 := hf 3 _ a3
  have f4 := hf 4 _ a4
  rw [b0, c0, P_ci, List.getElem?_eq_getElem (by omega)] at f0
  rw [b1, c1, P_cs, List.getElem?_eq_getElem (by omega)] at f1
  rw [b2, c2, P_cs, List.getElem?_eq_getElem (by omega)] at f2
  rw [b3, c3, P_ci, List.getElem?_eq_getElem (by omega)] at f3
  rw [b4, c4, P_csli, List.getElem?_eq_getElem (by omega)] at f4
  obtain ⟨n0, e0, _, _⟩ := DataW.trod_int P_int f0
  obtain ⟨s1, e1, _, _⟩ := DataW.trod_string P_str' f1
  obtain ⟨s2, e2, d2, _⟩ := DataW.trod_string P_str' f2
  obtain ⟨n3, e3, _, w3⟩ := DataW.trod_int P_int f3
  have hk : ∃ p len cap, (cs.drop 4).take 1 = [.slice p len cap] := by
    rcases Deep.open_slice P_slint f4 with ⟨h0, _⟩ | ⟨a, len', cap', _, _, _, _, h0, _⟩
    · exact ⟨_, _, _, h0⟩
    · exact ⟨_, _, _, h0⟩
  obtain ⟨p, len, cap, e4⟩ := hk
  rw [e4] at f4
  obtain ⟨ks, V, _, _⟩ := open_ints f4
  match cs, hl with
  | [v0, v1, v2, v3, v4], _ =>
    simp at e0 e1 e2 e3 e4
    refine ⟨⟨n0, s1, s2, n3, ⟨p, len, cap⟩⟩, by rw [e0, e1, e2, e3, e4]; rfl, ?_, (wf_i64 w3).2, ks, V⟩
    have h2 : xs[2].1 = .lit (.string s2.data.toList) := congrArg Prod.fst d2
    have hb : Rows.uptoBulk xs[2].1 ≤ Rows.uptoBulkAll (xs.map (·.1)) := by
      have : ∀ (l : List (DataW H)) (d : DataW H), d ∈ l → Rows.uptoBulk d ≤ Rows.uptoBulkAll l := by
        intro l
        induction l with
        | nil => intro d hd; cases hd
        | cons y l ih =>
          intro d hd
          simp only [Rows.uptoBulkAll]
          rcases List.mem_cons.1 hd with rfl | hd
          · omega
          · have := ih d hd; omega
      exact this _ _ (List.mem_map.2 ⟨xs[2], List.getElem_mem _, rfl⟩)
    rw [h2] at hb
    have hs : s2.data.toList.length = s2.size := by rw [Array.length_toList]; rfl
    simp only [Rows.uptoBulk] at hb
    rw [hx]
    simp only [Rows.uptoBulk]
    omega
end
theorem arg_cls {H : Type} {enc : TypeId × Value → H} {W : World} {base : Nat} {v : Value} {d : DataW H} {ps : List MemPlace} (hv : Value.okWide P W .any base t_sl_wherrylaw03_Call v) (h : DataW.Trod enc P W 0 (fun _ => true) true t_sl_wherrylaw03_Call v d ps) :
    ∃ (s : Sl) (l : List Cl), v = .slice s.p s.len s.cap ∧ View ClE W.heap s l ∧ (sumC l + 1 ≤ Rows.uptoBulk d ∧ ∀ c ∈ l, c.n ≤ 9223372036854775807 ∧ ∃ ks, View IntE W.heap c.keep ks) := by
  obtain ⟨p, len, cap, rfl⟩ := okWide_slice P_slcall hv
  obtain ⟨n, hn⟩ := h
  obtain ⟨l, ds, V, hl, hq, hb⟩ := open_sl (E := ClE) (Q := fun y d => y.data.size + 1 ≤ Rows.uptoBulk d ∧ y.n ≤ 9223372036854775807 ∧ ∃ ks, View IntE W.heap y.keep ks) P_slcall P_ccall (fun n cs x hx => open_cl hx) hn
  have h1 := sum_bulk (f := fun c : Cl => c.data.size + 1) hl (fun i y d h1 h2 => (hq i y d h1 h2).1)
  refine ⟨⟨p, len, cap⟩, l, rfl, V, ?_, fun c hc => ?_⟩
  · unfold sumC
    have : Rows.uptoBulkAll ds + 1 ≤ Rows.uptoBulk d := hb
    omega
  · obtain ⟨_, _, h⟩ := mem_bulk hl hq hc; exact h.2
end Go.Lf.G
