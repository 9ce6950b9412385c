/-
  Maps of strings; the statement MemLast over the formulas.
-/
import Derived.Test.YtdaodhcpiafgfaaLfM13
import Derived.MapKept
set_option maxRecDepth 100000
namespace Go.Lf.G
open Go

def updM (k : ByteArray) (v : Value) : List (ByteArray × Value) → List (ByteArray × Value)
  | [] => [(k, v)]
  | p :: m => if p.1 = k then (k, v) :: m else p :: updM k v m
def lookM (k : ByteArray) (m : List (ByteArray × Value)) : Option Value := (m.find? fun p => decide (p.1 = k)).map (·.2)

theorem lookM_cons (k : ByteArray) (p : ByteArray × Value) (m : List (ByteArray × Value)) : lookM k (p :: m) = if p.1 = k then some p.2 else lookM k m := by
  unfold lookM; rw [List.find?_cons]; by_cases h : p.1 = k <;> simp [h]
theorem lookM_upd (k : ByteArray) (v : Value) (c : ByteArray) : ∀ m, lookM c (updM k v m) = if k = c then some v else lookM c m
  | [] => by unfold updM; rw [lookM_cons]
  | p :: m => by
    unfold updM
    split
    · rename_i h
      rw [lookM_cons, lookM_cons]
      by_cases h2 : k = c <;> simp [h, h2]
    · rename_i h
      rw [lookM_cons, lookM_cons, lookM_upd k v c m]
      by_cases h2 : k = c
      · subst h2; simp [h]
      · simp [h2]
theorem updM_len (k : ByteArray) (v : Value) : ∀ m, (updM k v m).length = m.length + (if (lookM k m).isSome then 0 else 1)
  | [] => rfl
  | p :: m => by
    unfold updM
    rw [lookM_cons]
    split
    · simp
    · rw [List.length_cons, updM_len k v m, List.length_cons]; omega

def MapIs (h : Heap) (b : Nat) (m : List (ByteArray × Value)) : Prop :=
  ∃ es clock, h[b]? = some (.map es clock) ∧ es.toList.map (fun e => (e.key, e.val)) = m.map fun p => (Value.string p.1, p.2)
theorem MapIs.mod {h h' : Heap} {b : Nat} {m : List (ByteArray × Value)} {S : Nat → Prop} (M : MapIs h b m) (x : Mod S h h') (hS : ¬ S b) : MapIs h' b m := by
  obtain ⟨es, clock, hb, e⟩ := M
  exact ⟨es, clock, x.blk hb hS, e⟩

theorem find_spec (k : ByteArray) (v : Value) : ∀ (es : List MapEntry) (m : List (ByteArray × Value)) (i : Nat), (es.map fun e => (e.key, e.val)) = (m.map fun p => (Value.string p.1, p.2)) →
    (Instr.findNow .string (.string k) es i = some none ∧ lookM k m = none ∧ updM k v m = m ++ [(k, v)]) ∨
    ∃ j u, Instr.findNow .string (.string k) es i = some (some (i + j, u)) ∧ lookM k m = some u ∧ (∃ e, es[j]? = some e ∧ e.key = .string k) ∧ ((es.modify j fun e => { e with key := .string k, val := v }).map fun e => (e.key, e.val)) = (updM k v m).map fun p => (Value.string p.1, p.2)
  | [], [], i, _ => .inl ⟨rfl, rfl, rfl⟩
  | [], _ :: _, _, h => by simp at h
  | _ :: _, [], _, h => by simp at h
  | e :: es, p :: m, i, h => by
    simp only [List.map_cons, List.cons.injEq, Prod.mk.injEq] at h
    obtain ⟨⟨h1, h2⟩, h3⟩ := h
    have hs : Instr.sameNow .string (.string k) e.key = some (decide (k = p.1)) := by
      rw [h1]
      show some (k == p.1) = _
      rw [beq_toListBytes, toList_inj]
    by_cases hk : p.1 = k
    · refine .inr ⟨0, e.val, ?_, ?_, ⟨e, rfl, by rw [h1, hk]⟩, ?_⟩
      · unfold Instr.findNow; rw [hs, decide_eq_true hk.symm]; rfl
      · rw [lookM_cons, if_pos hk, h2]
      · unfold updM; rw [if_pos hk]; simp [h3]
    · rcases find_spec k v es m (i + 1) h3 with ⟨a1, a2, a3⟩ | ⟨j, u, a1, a2, ⟨e', a3, a4⟩, a5⟩
      · refine .inl ⟨?_, ?_, ?_⟩
        · unfold Instr.findNow; rw [hs, decide_eq_false (fun e => hk e.symm)]; exact a1
        · rw [lookM_cons, if_neg hk]; exact a2
        · unfold updM; rw [if_neg hk, a3]; rfl
      · refine .inr ⟨j + 1, u, ?_, ?_, ⟨e', by simpa using a3, a4⟩, ?_⟩
        · unfold Instr.findNow; rw [hs, decide_eq_false (fun e => hk e.symm)]; rw [show i + (j + 1) = i + 1 + j by omega]; exact a1
        · rw [lookM_cons, if_neg hk]; exact a2
        · unfold updM; rw [if_neg hk]; simp [h1, h2, a5]

theorem checkKey_str {P : Program} {kt : TypeId} (hk : P.underlying kt = some .string) (e : Bool) (n : Nat) (k : ByteArray) (w : World) : (Instr.checkKey e (n + 1) kt (.string k)).run P w = .ok () w := by
  simp [Instr.checkKey, run_und hk]

theorem lookup_ok {A : Amb} {t kt et : TypeId} {z : Value} (ht : P.underlying t = some (.map kt et)) (hk : P.underlying kt = some .string) (hz : (zeroValue et).calc P = some z) {h : Heap} {b : Nat} {m : List (ByteArray × Value)} {k : ByteArray} {K : Value → Heap → Prop}
    (M : MapIs h b m) (H : K ((lookM k m).getD z) h) : RunK A P (Instr.lookup t (.map (some b)) (.string k) false) h K := by
  intro n
  refine ⟨_, h, n, ?_, H⟩
  obtain ⟨es, clock, hb, e⟩ := M
  have hg := MapKept.run_getObj_map (P := P) (w := A.at h n) (r := b) hb
  rcases find_spec k z es.toList m 0 e with ⟨a1, a2, _⟩ | ⟨j, u, a1, a2, _, _⟩
  · simp [Instr.lookup, run_und ht, hg, checkKey_str hk, Instr.findKey, run_und hk, a1, a2, Result.andThen, calc_sound hz]
  · simp [Instr.lookup, run_und ht, hg, checkKey_str hk, Instr.findKey, run_und hk, a1, a2, Result.andThen]

theorem update_ok {A : Amb} {t kt et : TypeId} (ht : P.underlying t = some (.map kt et)) (hk : P.underlying kt = some .string) {h : Heap} {b : Nat} {m : List (ByteArray × Value)} {k : ByteArray} {v : Value} {K : Heap → Prop}
    (M : MapIs h b m) (H : ∀ h', MapIs h' b (updM k v m) → Mod (fun c => c = b) h h' → h'.size = h.size → K h') : RunU A P (Instr.mapUpdate t (.map (some b)) (.string k) v) h K := by
  intro n
  obtain ⟨es, clock, hb, e⟩ := M
  have hlt := blk_lt hb
  have hg := MapKept.run_getObj_map (P := P) (w := A.at h n) (r := b) hb
  have hst : ∀ o, (setObj b o).run P (A.at h n) = .ok () (A.at (h.setIfInBounds b o) n) := fun o => MapKept.run_setObj_map (P := P) (w := A.at h n) o hb
  rcases find_spec k v es.toList m 0 e with ⟨a1, a2, a3⟩ | ⟨j, u, a1, a2, ⟨e', a3, a4⟩, a5⟩
  · refine ⟨h.setIfInBounds b (.map (es.push { key := .string k, val := v, born := clock }) (clock + 1)), n, ?_, H _ ⟨_, _, setObj_self hlt, ?_⟩ (Mod.setObj rfl) (by simp)⟩
    · simp [Instr.mapUpdate, run_und ht, hg, checkKey_str hk, Instr.findKey, run_und hk, a1, Result.andThen, hst]
    · rw [a3]; simp [e]
  · have hj : es[j]? = some e' := by simpa using a3
    refine ⟨h.setIfInBounds b (.map (es.modify j fun e => { e with key := .string k, val := v }) clock), n, ?_, H _ ⟨_, _, setObj_self hlt, ?_⟩ (Mod.setObj rfl) (by simp)⟩
    · have hstay : ∀ w, (Instr.keyThatStays (.string k) (.string k)).run P w = .ok (.string k) w := fun w => by
        have hkk : (k == k) = true := by rw [beq_toListBytes]; simp
        simp [Instr.keyThatStays, Instr.sameBits, hkk]
      simp [Instr.mapUpdate, run_und ht, hg, checkKey_str hk, Instr.findKey, run_und hk, a1, hj, a4, hstay, Result.andThen, hst]
    · rw [Array.toList_modify]; exact a5

theorem mapLen_ok {A : Amb} {t kt et ty : TypeId} (ht : P.underlying t = some (.map kt et)) {h : Heap} {b : Nat} {m : List (ByteArray × Value)} {K : Value → Heap → Prop} (M : MapIs h b m) (H : K (.int .i64 (m.length : Int)) h) : RunK A P (Builtin.len_ #[t] ty #[.map (some b)]) h K := by
  intro n
  obtain ⟨es, clock, hb, e⟩ := M
  have hg := MapKept.run_getObj_map (P := P) (w := A.at h n) (r := b) hb
  refine ⟨_, h, n, ?_, H⟩
  have hl : es.size = m.length := by rw [← Array.length_toList]; have := congrArg List.length e; simpa using this
  simp [Builtin.len_, run_und ht, hg, hl, goInt]

theorem P_msp : P.underlying t_map_string_api_Pair = some (.map t_string t_api_Pair) := by kernel_rfl
theorem P_msb : P.underlying t_map_string_bool = some (.map t_string t_bool) := by kernel_rfl
theorem P_zp : (zeroValue t_api_Pair).calc P = some zeroP.agg := by kernel_rfl
theorem P_zb : (zeroValue t_bool).calc P = some (.bool false) := by kernel_rfl

theorem ins_len (x : Pr) : ∀ {l : List Pr}, Sorted l → (ins x l).length = l.length + (if (findK x.key l).isSome then 0 else 1)
  | [], _ => rfl
  | q :: l, s => by
    have s' := List.pairwise_cons.1 s
    unfold ins
    rw [findK_cons]
    split
    · rename_i h
      rw [if_neg (lt_ne h), List.length_cons, ins_len x s'.2, List.length_cons]; omega
    · rename_i h
      split
      · rename_i hk; simp
      · rename_i hk
        have hlt : sLt x.key q.key = true := by
          cases h2 : sLt x.key q.key
          · exact absurd (sLt_tri (by simpa using h) h2) hk
          · rfl
        rw [findK_none fun y hy e => by have := sLt_trans hlt (s'.1 y hy); rw [e, sLt_irrefl] at this; cases this]
        simp
end Go.Lf.G
