/-
  LIFT, part U1: strings in order; lists of strings; maps of strings, with their stamps.
-/
import Derived.Test.YtcaiammecilkeaaLfL
import Derived.MapKept
import Derived.Maps.Own
import Derived.Lib.Bytealg
import Derived.Sort.KeysCollected
import Derived.StringKeys
set_option maxRecDepth 100000
namespace Go.Lf
open Go

theorem toList_inj {a b : ByteArray} : (a.toList == b.toList) = decide (a = b) := by
  rw [ByteArray.toList_eq, ByteArray.toList_eq]
  rw [Bool.eq_iff_iff]
  simp [ByteArray.ext_iff, ← Array.toList_inj]
theorem sEq_iff {a b : ByteArray} : sEq a b = decide (a = b) := toList_inj

/-! ### the order of strings -/
theorem bl_irrefl : ∀ (a : List UInt8), Op.bytesLess a a = false
  | [] => rfl
  | a :: x => by simp [Op.bytesLess, bl_irrefl x]
theorem bl_tri : ∀ (a b : List UInt8), Op.bytesLess a b = false → Op.bytesLess b a = false → a = b
  | [], [], _, _ => rfl
  | [], _ :: _, h, _ => by simp [Op.bytesLess] at h
  | _ :: _, [], _, h => by simp [Op.bytesLess] at h
  | a :: x, b :: y, h1, h2 => by
    simp only [Op.bytesLess, Bool.or_eq_false_iff, Bool.and_eq_false_iff, decide_eq_false_iff_not, beq_eq_false_iff_ne] at h1 h2
    have hab : a = b := by
      have h3 := h1.1; have h4 := h2.1
      exact UInt8.le_antisymm (UInt8.not_lt.1 h4) (UInt8.not_lt.1 h3)
    subst hab
    rw [bl_tri x y (h1.2.resolve_left (by simp)) (h2.2.resolve_left (by simp))]
theorem bl_trans : ∀ (a b c : List UInt8), Op.bytesLess a b = true → Op.bytesLess b c = true → Op.bytesLess a c = true
  | _, [], _, h, _ => by simp [Op.bytesLess] at h
  | _, _ :: _, [], _, h => by simp [Op.bytesLess] at h
  | [], _ :: _, _ :: _, _, _ => by simp [Op.bytesLess]
  | a :: x, b :: y, c :: z, h1, h2 => by
    simp only [Op.bytesLess, Bool.or_eq_true, Bool.and_eq_true, decide_eq_true_eq, beq_iff_eq] at h1 h2 ⊢
    rcases h1 with h1 | ⟨rfl, h1⟩
    · rcases h2 with h2 | ⟨rfl, h2⟩
      · exact .inl (UInt8.lt_trans h1 h2)
      · exact .inl h1
    · rcases h2 with h2 | ⟨rfl, h2⟩
      · exact .inl h2
      · exact .inr ⟨rfl, bl_trans x y z h1 h2⟩
theorem sLt_irrefl (a : ByteArray) : sLt a a = false := bl_irrefl _
theorem sLt_trans {a b c : ByteArray} (h1 : sLt a b = true) (h2 : sLt b c = true) : sLt a c = true := bl_trans _ _ _ h1 h2
theorem sLt_tri {a b : ByteArray} (h1 : sLt a b = false) (h2 : sLt b a = false) : a = b := by
  have := bl_tri _ _ h1 h2
  have h3 : sEq a b = true := by simp [sEq, this]
  rw [sEq_iff] at h3
  simpa using h3
theorem sLt_asymm {a b : ByteArray} (h1 : sLt a b = true) : sLt b a = false := by
  cases h : sLt b a
  · rfl
  · have := sLt_trans h1 h; rw [sLt_irrefl] at this; cases this
theorem lt_ne {a b : ByteArray} (h : sLt a b = true) : a ≠ b := by rintro rfl; rw [sLt_irrefl] at h; cases h
/-- a < b ≤ c -/
theorem sLt_le {a b c : ByteArray} (h1 : sLt a b = true) (h2 : sLt c b = false) : sLt a c = true := by
  cases h : sLt b c
  · rw [sLt_tri h2 h]; exact h1
  · exact sLt_trans h1 h
/-- a ≤ b ≤ c -/
theorem sLe_trans {a b c : ByteArray} (h1 : sLt b a = false) (h2 : sLt c b = false) : sLt c a = false := by
  cases h : sLt c a
  · rfl
  · have := sLt_le h h1; rw [this] at h2; cases h2

theorem bl_lex : ∀ (a b : List UInt8), Op.bytesLess a b = decide (a < b)
  | [], [] => by simp [Op.bytesLess]
  | [], _ :: _ => by simp [Op.bytesLess]
  | _ :: _, [] => by simp [Op.bytesLess]
  | a :: x, b :: y => by
    simp only [Op.bytesLess, bl_lex x y, List.cons_lt_cons_iff]
    by_cases h1 : a < b <;> by_cases h2 : a = b <;> simp [h1, h2]
theorem cmp_lt : ∀ (a b : List UInt8), decide (Lib.compareBytes a b < 0) = Op.bytesLess a b
  | [], [] => by simp [Lib.compareBytes, Op.bytesLess]
  | [], _ :: _ => by simp [Lib.compareBytes, Op.bytesLess]
  | _ :: _, [] => by simp [Lib.compareBytes, Op.bytesLess]
  | a :: x, b :: y => by
    simp only [Lib.compareBytes, Op.bytesLess]
    by_cases h1 : a < b
    · simp [h1]
    · by_cases h2 : b < a
      · have : (a == b) = false := by rw [beq_eq_false_iff_ne]; rintro rfl; exact h1 h2
        simp [h1, h2, this]
      · have hab : a = b := UInt8.le_antisymm (UInt8.not_lt.1 h2) (UInt8.not_lt.1 h1)
        subst hab
        simp [h1, cmp_lt x y]
theorem sLt_cmp (a b : ByteArray) : decide (Lib.compareBytes a.data.toList b.data.toList < 0) = sLt a b := by
  rw [cmp_lt]; simp [sLt, ByteArray.toList_eq]
theorem sLt_lex (a b : ByteArray) : sLt a b = decide (a.data.toList < b.data.toList) := by simp [sLt, ByteArray.toList_eq, bl_lex]

/-! ### lists of strings, of integers -/
def StrE : Enc ByteArray where
  enc x := [.string x]
  w := 1
  len _ := rfl
  pos := by omega
  one x v hv := by simp at hv; subst hv; rfl
def IntE : Enc Int where
  enc x := [.int .i64 x]
  w := 1
  len _ := rfl
  pos := by omega
  one x v hv := by simp at hv; subst hv; rfl
theorem Cells.str {h : Heap} {a : Addr} {x : ByteArray} (c : Cells h a (StrE.enc x)) : hget h a = some (.string x) := by
  have h0 := c 0 _ rfl
  rwa [add_zero] at h0
theorem Cells.int {h : Heap} {a : Addr} {x : Int} (c : Cells h a (IntE.enc x)) : hget h a = some (.int .i64 x) := by
  have h0 := c 0 _ rfl
  rwa [add_zero] at h0

theorem Own.lt {α : Type} {E : Enc α} {T : TypeId} {h : Heap} {s : Sl} {l : List α} (o : Own E T h s l) {b : Nat} (hb : s.blk = some b) : b < h.size := by
  rcases o.row with ⟨rfl, _⟩ | ⟨g, cur, hp, hg, _⟩
  · simp [Sl.blk] at hb
  · simp [Sl.blk, hp] at hb; subst hb; exact blk_lt hg

/-! ### maps of strings -/
def updM (k : ByteArray) (v : Value) : List (ByteArray × Value) → List (ByteArray × Value)
  | [] => [(k, v)]
  | p :: m => if p.1 = k then (k, v) :: m else p :: updM k v m
def lookM (k : ByteArray) (m : List (ByteArray × Value)) : Option Value := (m.find? fun p => decide (p.1 = k)).map (·.2)
def delM (k : ByteArray) (m : List (ByteArray × Value)) : List (ByteArray × Value) := m.filter fun p => !decide (p.1 = k)

theorem lookM_cons (k : ByteArray) (p : ByteArray × Value) (m : List (ByteArray × Value)) : lookM k (p :: m) = if p.1 = k then some p.2 else lookM k m := by
  unfold lookM; rw [List.find?_cons]; by_cases h : p.1 = k <;> simp [h]
theorem lookM_upd (k : ByteArray) (v : Value) (c : ByteArray) : ∀ m, lookM c (updM k v m) = if k = c then some v else lookM c m
  | [] => by unfold updM; rw [lookM_cons]
  | p :: m => by
    unfold updM
    split
    · rename_i h
      rw [lookM_cons, lookM_cons]
      by_cases h2 : k = c <;> simp [h, h2]
    · rename_i h
      rw [lookM_cons, lookM_cons, lookM_upd k v c m]
      by_cases h2 : k = c
      · subst h2; simp [h]
      · simp [h2]

structure MapOf (es : Array MapEntry) (clock : Nat) (m : List (ByteArray × Value)) : Prop where
  same : es.toList.map (fun e => (e.key, e.val)) = m.map fun p => (Value.string p.1, p.2)
  stamped : MapKept.Stamped es clock
  size : es.size ≤ maxLen
  keys : ∀ p ∈ m, p.1.size ≤ maxLen
def MapS (h : Heap) (b : Nat) (m : List (ByteArray × Value)) : Prop := ∃ es clock, h[b]? = some (.map es clock) ∧ MapOf es clock m
theorem MapS.mod {h h' : Heap} {b : Nat} {m : List (ByteArray × Value)} {S : Nat → Prop} (M : MapS h b m) (x : Mod S h h') (hS : ¬ S b) : MapS h' b m := by
  obtain ⟨es, clock, hb, e⟩ := M
  exact ⟨es, clock, x.blk hb hS, e⟩
theorem MapS.lt {h : Heap} {b : Nat} {m : List (ByteArray × Value)} (M : MapS h b m) : b < h.size := by
  obtain ⟨es, clock, hb, e⟩ := M; exact blk_lt hb
theorem MapS.empty {h : Heap} {b c : Nat} (hb : h[b]? = some (.map #[] c)) : MapS h b [] := ⟨#[], c, hb, rfl, MapKept.stamped_empty c, by simp, by simp⟩
theorem MapOf.len {es : Array MapEntry} {clock : Nat} {m : List (ByteArray × Value)} (M : MapOf es clock m) : es.size = m.length := by
  rw [← Array.length_toList]; have := congrArg List.length M.same; simpa using this
theorem MapOf.keysOf {es : Array MapEntry} {clock : Nat} {m : List (ByteArray × Value)} (M : MapOf es clock m) : es.toList.map (·.key) = m.map fun p => Value.string p.1 := by
  have := congrArg (List.map Prod.fst) M.same
  simpa [List.map_map, Function.comp_def] using this
theorem MapOf.nodup {es : Array MapEntry} {clock : Nat} {m : List (ByteArray × Value)} (M : MapOf es clock m) : (m.map (·.1)).Nodup := by
  have h1 := M.stamped.2.2
  rw [M.keysOf] at h1
  have h2 : (m.map fun p => Value.string p.1) = (m.map (·.1)).map Value.string := by simp
  rw [h2] at h1
  exact (List.pairwise_map.1 h1).imp fun hne e => hne (congrArg _ e)

theorem find_spec (k : ByteArray) (v : Value) : ∀ (es : List MapEntry) (m : List (ByteArray × Value)) (i : Nat), (es.map fun e => (e.key, e.val)) = (m.map fun p => (Value.string p.1, p.2)) →
    (Instr.findNow .string (.string k) es i = some none ∧ lookM k m = none ∧ updM k v m = m ++ [(k, v)] ∧ delM k m = m ∧ ∀ e ∈ es, e.key ≠ .string k) ∨
    ∃ j u, Instr.findNow .string (.string k) es i = some (some (i + j, u)) ∧ lookM k m = some u ∧ (∃ e, es[j]? = some e ∧ e.key = .string k) ∧ ((es.modify j fun e => { e with key := .string k, val := v }).map fun e => (e.key, e.val)) = (updM k v m).map (fun p => (Value.string p.1, p.2)) ∧
      ((m.map (·.1)).Nodup → ((es.eraseIdx j).map fun e => (e.key, e.val)) = (delM k m).map fun p => (Value.string p.1, p.2))
  | [], [], i, _ => .inl ⟨rfl, rfl, rfl, rfl, by simp⟩
  | [], _ :: _, _, h => by simp at h
  | _ :: _, [], _, h => by simp at h
  | e :: es, p :: m, i, h => by
    simp only [List.map_cons, List.cons.injEq, Prod.mk.injEq] at h
    obtain ⟨⟨h1, h2⟩, h3⟩ := h
    have hs : Instr.sameNow .string (.string k) e.key = some (decide (k = p.1)) := by
      rw [h1]
      show some (k == p.1) = _
      congr 1
      rw [Bool.eq_iff_iff, MapKept.bytes_beq]; simp
    by_cases hk : p.1 = k
    · refine .inr ⟨0, e.val, ?_, ?_, ⟨e, rfl, by rw [h1, hk]⟩, ?_, ?_⟩
      · unfold Instr.findNow; rw [hs, decide_eq_true hk.symm]; rfl
      · rw [lookM_cons, if_pos hk, h2]
      · unfold updM; rw [if_pos hk]; simp [h3]
      · intro hnd
        have hnd := List.nodup_cons.1 hnd
        simp only [List.eraseIdx_zero, List.tail_cons]
        rw [h3]
        congr 1
        unfold delM
        rw [List.filter_cons]
        simp only [hk, decide_true, Bool.not_true, Bool.false_eq_true, if_false]
        refine (List.filter_eq_self.2 fun q hq => ?_).symm
        simp only [Bool.not_eq_true', decide_eq_false_iff_not]
        rintro rfl
        exact hnd.1 (by show p.1 ∈ _; rw [hk]; exact List.mem_map_of_mem (f := Prod.fst) hq)
    · rcases find_spec k v es m (i + 1) h3 with ⟨a1, a2, a3, a6, a7⟩ | ⟨j, u, a1, a2, ⟨e', a3, a4⟩, a5, a6⟩
      · refine .inl ⟨?_, ?_, ?_, ?_, ?_⟩
        · unfold Instr.findNow; rw [hs, decide_eq_false (fun e => hk e.symm)]; exact a1
        · rw [lookM_cons, if_neg hk]; exact a2
        · unfold updM; rw [if_neg hk, a3]; rfl
        · unfold delM at a6 ⊢; rw [List.filter_cons]; simp [hk]; simpa using a6
        · intro x hx
          rcases List.mem_cons.1 hx with rfl | hx
          · rw [h1]; intro e; injection e with e; exact hk e
          · exact a7 x hx
      · refine .inr ⟨j + 1, u, ?_, ?_, ⟨e', by simpa using a3, a4⟩, ?_, ?_⟩
        · unfold Instr.findNow; rw [hs, decide_eq_false (fun e => hk e.symm)]; rw [show i + (j + 1) = i + 1 + j by omega]; exact a1
        · rw [lookM_cons, if_neg hk]; exact a2
        · unfold updM; rw [if_neg hk]; simp [h1, h2, a5]
        · intro hnd
          have hnd := List.nodup_cons.1 hnd
          have := a6 hnd.2
          unfold delM at this ⊢
          rw [List.filter_cons]
          simp [hk, h1, h2]
          simpa using this

section
variable {P : Program}
theorem checkKey_str {kt : TypeId} (hk : P.underlying kt = some .string) (e : Bool) (n : Nat) (k : ByteArray) (w : World) : (Instr.checkKey e (n + 1) kt (.string k)).run P w = .ok () w := by
  simp [Instr.checkKey, run_und hk]

theorem lookup_ok {A : Amb} {t kt et : TypeId} {z : Value} (ht : P.underlying t = some (.map kt et)) (hk : P.underlying kt = some .string) (hz : (zeroValue et).calc P = some z) {h : Heap} {b : Nat} {m : List (ByteArray × Value)} {k : ByteArray} {K : Value → Heap → Prop}
    (M : MapS h b m) (H : K ((lookM k m).getD z) h) : RunK A P (Instr.lookup t (.map (some b)) (.string k) false) h K := by
  intro n
  refine ⟨_, h, n, ?_, H⟩
  obtain ⟨es, clock, hb, e⟩ := M
  have hg := MapKept.run_getObj_map (P := P) (w := A.at h n) (r := b) hb
  rcases find_spec k z es.toList m 0 e.same with ⟨a1, a2, _⟩ | ⟨j, u, a1, a2, _, _⟩
  · simp [Instr.lookup, run_und ht, hg, checkKey_str hk, Instr.findKey, run_und hk, a1, a2, Result.andThen, calc_sound hz]
  · simp [Instr.lookup, run_und ht, hg, checkKey_str hk, Instr.findKey, run_und hk, a1, a2, Result.andThen]

theorem updM_keys {k : ByteArray} {v : Value} : ∀ {m : List (ByteArray × Value)} {p : ByteArray × Value}, p ∈ updM k v m → p.1 = k ∨ p ∈ m
  | [], p, h => by simp [updM] at h; exact .inl (by rw [h])
  | q :: m, p, h => by
    unfold updM at h
    split at h
    · rcases List.mem_cons.1 h with rfl | h
      · exact .inl rfl
      · exact .inr (List.mem_cons_of_mem _ h)
    · rcases List.mem_cons.1 h with rfl | h
      · exact .inr List.mem_cons_self
      · exact (updM_keys h).imp id (List.mem_cons_of_mem _)

theorem update_ok {A : Amb} {t kt et : TypeId} (ht : P.underlying t = some (.map kt et)) (hk : P.underlying kt = some .string) {h : Heap} {b : Nat} {m : List (ByteArray × Value)} {k : ByteArray} {v : Value} {K : Heap → Prop}
    (M : MapS h b m) (hks : k.size ≤ maxLen) (hml : m.length < maxLen) (H : ∀ h', MapS h' b (updM k v m) → Mod (fun c => c = b) h h' → h'.size = h.size → K h') : RunU A P (Instr.mapUpdate t (.map (some b)) (.string k) v) h K := by
  intro n
  obtain ⟨es, clock, hb, e⟩ := M
  have hlt := blk_lt hb
  have hg := MapKept.run_getObj_map (P := P) (w := A.at h n) (r := b) hb
  have hst : ∀ o, (setObj b o).run P (A.at h n) = .ok () (A.at (h.setIfInBounds b o) n) := fun o => MapKept.run_setObj_map (P := P) (w := A.at h n) o hb
  have hkeys : ∀ p ∈ updM k v m, p.1.size ≤ maxLen := fun p hp => (updM_keys hp).elim (fun h => by rw [h]; exact hks) (e.keys p)
  have hlen := e.len
  rcases find_spec k v es.toList m 0 e.same with ⟨a1, a2, a3, _, a7⟩ | ⟨j, u, a1, a2, ⟨e', a3, a4⟩, a5, _⟩
  · refine ⟨h.setIfInBounds b (.map (es.push { key := .string k, val := v, born := clock }) (clock + 1)), n, ?_, H _ ⟨_, _, setObj_self hlt, ?_, MapKept.stamped_push e.stamped a7, by simp; omega, hkeys⟩ (Mod.setObj rfl) (by simp)⟩
    · simp [Instr.mapUpdate, run_und ht, hg, checkKey_str hk, Instr.findKey, run_und hk, a1, Result.andThen, hst]
    · rw [a3]; simp [e.same]
  · have hj : es[j]? = some e' := by simpa using a3
    refine ⟨h.setIfInBounds b (.map (es.modify j fun e => { e with key := .string k, val := v }) clock), n, ?_, H _ ⟨_, _, setObj_self hlt, ?_, MapKept.stamped_modify e.stamped _ _ (fun _ _ => rfl) (fun x _ hx => ?_), by simpa using e.size, hkeys⟩ (Mod.setObj rfl) (by simp)⟩
    · have hstay : ∀ w, (Instr.keyThatStays (.string k) (.string k)).run P w = .ok (.string k) w := fun w => by
        have hkk : (k == k) = true := (MapKept.bytes_beq k k).2 rfl
        simp [Instr.keyThatStays, Instr.sameBits, hkk]
      simp [Instr.mapUpdate, run_und ht, hg, checkKey_str hk, Instr.findKey, run_und hk, a1, hj, a4, hstay, Result.andThen, hst]
    · rw [Array.toList_modify]; exact a5
    · rw [hj] at hx; cases hx; exact a4.symm

theorem delete_ok {A : Amb} {t kt et ty : TypeId} (ht : P.underlying t = some (.map kt et)) (hk : P.underlying kt = some .string) {h : Heap} {b : Nat} {m : List (ByteArray × Value)} {k : ByteArray} {K : Value → Heap → Prop}
    (M : MapS h b m) (H : ∀ h', MapS h' b (delM k m) → Mod (fun c => c = b) h h' → h'.size = h.size → K (.tuple #[]) h') : RunK A P (Builtin.delete_ #[t, kt] ty #[.map (some b), .string k]) h K := by
  intro n
  obtain ⟨es, clock, hb, e⟩ := M
  have hlt := blk_lt hb
  have hg := MapKept.run_getObj_map (P := P) (w := A.at h n) (r := b) hb
  have hst : ∀ o, (setObj b o).run P (A.at h n) = .ok () (A.at (h.setIfInBounds b o) n) := fun o => MapKept.run_setObj_map (P := P) (w := A.at h n) o hb
  have hkeys : ∀ p ∈ delM k m, p.1.size ≤ maxLen := fun p hp => e.keys p (List.mem_filter.1 hp).1
  rcases find_spec k (.bool true) es.toList m 0 e.same with ⟨a1, a2, _, a6, _⟩ | ⟨j, u, a1, a2, ⟨e', a3, a4⟩, _, a6⟩
  · refine ⟨_, h.setIfInBounds b (.map es clock), n, ?_, H _ ⟨_, _, setObj_self hlt, by rw [a6]; exact e.same, e.stamped, e.size, hkeys⟩ (Mod.setObj rfl) (by simp)⟩
    simp [Builtin.delete_, run_und ht, hg, checkKey_str hk, Instr.findKey, run_und hk, a1, Result.andThen, hst]
  · have hj : es[j]? = some e' := by simpa using a3
    refine ⟨_, h.setIfInBounds b (.map (es.eraseIdxIfInBounds j) clock), n, ?_, H _ ⟨_, _, setObj_self hlt, ?_, MapKept.stamped_erase e.stamped _, ?_, hkeys⟩ (Mod.setObj rfl) (by simp)⟩
    · simp [Builtin.delete_, run_und ht, hg, checkKey_str hk, Instr.findKey, run_und hk, a1, Result.andThen, hst]
    · have hjl := (Array.getElem?_eq_some_iff.1 hj).1
      rw [Array.eraseIdxIfInBounds, dif_pos hjl, Array.toList_eraseIdx]
      exact a6 e.nodup
    · have : (es.eraseIdxIfInBounds j).size ≤ es.size := by
        unfold Array.eraseIdxIfInBounds; split <;> simp
      have := e.size; omega

theorem mapLen_ok {A : Amb} {t kt et ty : TypeId} (ht : P.underlying t = some (.map kt et)) {h : Heap} {b : Nat} {m : List (ByteArray × Value)} {K : Value → Heap → Prop} (M : MapS h b m) (H : K (.int .i64 (m.length : Int)) h) : RunK A P (Builtin.len_ #[t] ty #[.map (some b)]) h K := by
  intro n
  obtain ⟨es, clock, hb, e⟩ := M
  have hg := MapKept.run_getObj_map (P := P) (w := A.at h n) (r := b) hb
  refine ⟨_, h, n, ?_, H⟩
  simp [Builtin.len_, run_und ht, hg, e.len, goInt]
end

/-! ### a map's keys, sorted -/
def anyR (_ : Value) : Option (DataW Unit × List MemPlace) := some (.nil, [])

theorem ins_perm {H : Type} (x : Lit × DataW H) : ∀ l : List (Lit × DataW H), (DataW.insert x l).Perm (x :: l)
  | [] => by simp [DataW.insert]
  | y :: r => by
    unfold DataW.insert
    split
    · exact List.Perm.refl _
    · exact ((ins_perm x r).cons y).trans (List.Perm.swap x y r)
theorem sorted_perm {H : Type} : ∀ l : List (Lit × DataW H), (l.foldr DataW.insert []).Perm l
  | [] => List.Perm.refl _
  | x :: r => (ins_perm x _).trans ((sorted_perm r).cons x)

theorem keys_owned {P : Program} {kt : TypeId} (hk : P.underlying kt = some .string) {w : World} {b : Nat} {m : List (ByteArray × Value)} (M : MapS w.heap b m) :
    ∃ D : DataW Unit, w.ownsMap P kt anyR b m.length D ∧ (strKeys D).Perm (m.map fun p => p.1.data.toList) ∧ Maps.size D = m.length := by
  obtain ⟨es, clock, hb, e⟩ := M
  have hrd : ∀ x ∈ es.toList, ∃ s : ByteArray, x.key = .string s ∧ WideElems.rd P kt anyR x = some (.string s.data.toList, .nil) := by
    intro x hx
    have : x.key ∈ m.map fun p => Value.string p.1 := by rw [← e.keysOf]; exact List.mem_map_of_mem hx
    obtain ⟨p, hp, hpx⟩ := List.mem_map.1 this
    refine ⟨p.1, hpx.symm, ?_⟩
    simp [WideElems.rd, ← hpx, Go.WideMaps.keyOf_string_mk hk (e.keys p hp), anyR]
  refine ⟨_, ⟨es, clock, hb, ⟨e.size, e.stamped, fun x hx => ?_⟩, by rw [e.len]; exact Nat.le_refl _, rfl⟩, ?_, ?_⟩
  · obtain ⟨s, _, h2⟩ := hrd x hx; exact ⟨_, h2⟩
  · show ((es.toList.map (WideElems.rg P kt anyR)).foldr DataW.insert [] |>.map fun p => strOf p.1).Perm _
    refine ((sorted_perm _).map _).trans ?_
    have h1 : (es.toList.map (WideElems.rg P kt anyR)).map (fun p => strOf p.1) = (es.toList.map (·.key)).map fun v => match v with | .string s => s.data.toList | _ => [] := by
      rw [List.map_map, List.map_map]
      refine List.map_congr_left fun x hx => ?_
      obtain ⟨s, h1, h2⟩ := hrd x hx
      simp [Function.comp, WideElems.rg, h2, h1, strOf]
    rw [h1, e.keysOf, List.map_map]
    exact List.Perm.of_eq (List.map_congr_left fun x _ => rfl)
  · show ((es.toList.map (WideElems.rg P kt anyR)).foldr DataW.insert []).length = _
    rw [(sorted_perm _).length_eq]; simp [e.len]

def SortedS (l : List ByteArray) : Prop := l.Pairwise fun a b => sLt a b = true

theorem sort_names {ss : List (List UInt8)} {l : List ByteArray} (hs : SortedS l) (hp : ss.Perm (l.map fun x => x.data.toList)) : (ss.mergeSort fun x y => decide (x ≤ y)) = l.map fun x => x.data.toList := by
  have e := mergeSort_of_perm hp
  have h2 : (l.map fun x => x.data.toList).mergeSort leB = l.map fun x => x.data.toList := by
    refine List.mergeSort_of_pairwise ?_
    refine List.pairwise_map.2 (hs.imp fun {a b} hab => ?_)
    rw [sLt_lex] at hab
    simp only [decide_eq_true_eq] at hab ⊢
    exact List.le_of_lt hab
  exact e.trans h2
theorem enc_names (l : List ByteArray) : (l.map fun x => x.data.toList).map Proofs.encStr = l.flatMap StrE.enc := by
  induction l with
  | nil => rfl
  | cons x r ih => rw [List.map_cons, List.map_cons, ih, List.flatMap_cons]; rfl
end Go.Lf
