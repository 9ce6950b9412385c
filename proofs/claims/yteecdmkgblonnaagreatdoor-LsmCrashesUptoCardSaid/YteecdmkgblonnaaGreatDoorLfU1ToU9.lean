/-
 LIFT, part U1: strings in order; lists of strings; maps of strings, with their stamps.
-/
import Derived.Test.YteecdmkgblonnaaGreatDoorLfKToU6
import Derived.MapKept
import Derived.Maps.Own
import Derived.Lib.Bytealg
import Derived.Sort.KeysCollected
import Derived.StringKeys
import Derived.Laws.BytesString
import Derived.Laws.BytesArg
set_option linter.unusedVariables false
set_option linter.unusedSimpArgs false
set_option maxRecDepth 100000
namespace Go.Lf
open Go
theorem toList_inj {a b : ByteArray} : (a.toList == b.toList) = decide (a = b) := by
 rw [ByteArray.toList_eq, ByteArray.toList_eq]
 rw [Bool.eq_iff_iff]
 simp [ByteArray.ext_iff, ← Array.toList_inj]
theorem sEq_iff {a b : ByteArray} : sEq a b = decide (a = b) := toList_inj
/-! ### the order of strings -/
theorem bl_irrefl : ∀ (a : List UInt8), Op.bytesLess a a = false
 | [] => rfl
 | a :: x => by simp [Op.bytesLess, bl_irrefl x]
theorem bl_tri : ∀ (a b : List UInt8), Op.bytesLess a b = false → Op.bytesLess b a = false → a = b
 | [], [], _, _ => rfl
 | [], _ :: _, h, _ => by simp [Op.bytesLess] at h
 | _ :: _, [], _, h => by simp [Op.bytesLess] at h
 | a :: x, b :: y, h1, h2 => by
  simp only [Op.bytesLess, Bool.or_eq_false_iff, Bool.and_eq_false_iff, decide_eq_false_iff_not, beq_eq_false_iff_ne] at h1 h2
  have hab : a = b := by
   have h3 := h1.1; have h4 := h2.1
   exact UInt8.le_antisymm (UInt8.not_lt.1 h4) (UInt8.not_lt.1 h3)
  subst hab
  rw [bl_tri x y (h1.2.resolve_left (by simp)) (h2.2.resolve_left (by simp))]
theorem bl_trans : ∀ (a b c : List UInt8), Op.bytesLess a b = true → Op.bytesLess b c = true → Op.bytesLess a c = true
 | _, [], _, h, _ => by simp [Op.bytesLess] at h
 | _, _ :: _, [], _, h => by simp [Op.bytesLess] at h
 | [], _ :: _, _ :: _, _, _ => by simp [Op.bytesLess]
 | a :: x, b :: y, c :: z, h1, h2 => by
  simp only [Op.bytesLess, Bool.or_eq_true, Bool.and_eq_true, decide_eq_true_eq, beq_iff_eq] at h1 h2 ⊢
  rcases h1 with h1 | ⟨rfl, h1⟩
  ·rcases h2 with h2 | ⟨rfl, h2⟩
   ·exact .inl (UInt8.lt_trans h1 h2)
   ·exact .inl h1
  ·rcases h2 with h2 | ⟨rfl, h2⟩
   ·exact .inl h2
   ·exact .inr ⟨rfl, bl_trans x y z h1 h2⟩
theorem sLt_irrefl (a : ByteArray) : sLt a a = false := bl_irrefl _
theorem sLt_trans {a b c : ByteArray} (h1 : sLt a b = true) (h2 : sLt b c = true) : sLt a c = true := bl_trans _ _ _ h1 h2
theorem sLt_tri {a b : ByteArray} (h1 : sLt a b = false) (h2 : sLt b a = false) : a = b := by
 have := bl_tri _ _ h1 h2
 have h3 : sEq a b = true := by simp [sEq, this]
 rw [sEq_iff] at h3
 simpa using h3
theorem sLt_asymm {a b : ByteArray} (h1 : sLt a b = true) : sLt b a = false := by
 cases h : sLt b a
 ·rfl
 ·have := sLt_trans h1 h; rw [sLt_irrefl] at this; cases this
theorem lt_ne {a b : ByteArray} (h : sLt a b = true) : a ≠ b := by rintro rfl; rw [sLt_irrefl] at h; cases h
/-- a < b ≤ c -/
theorem sLt_le {a b c : ByteArray} (h1 : sLt a b = true) (h2 : sLt c b = false) : sLt a c = true := by
 cases h : sLt b c
 ·rw [sLt_tri h2 h]; exact h1
 ·exact sLt_trans h1 h
/-- a ≤ b ≤ c -/
theorem sLe_trans {a b c : ByteArray} (h1 : sLt b a = false) (h2 : sLt c b = false) : sLt c a = false := by
 cases h : sLt c a
 ·rfl
 ·have := sLt_le h h1; rw [this] at h2; cases h2
theorem bl_lex : ∀ (a b : List UInt8), Op.bytesLess a b = decide (a < b)
 | [], [] => by simp [Op.bytesLess]
 | [], _ :: _ => by simp [Op.bytesLess]
 | _ :: _, [] => by simp [Op.bytesLess]
 | a :: x, b :: y => by
  simp only [Op.bytesLess, bl_lex x y, List.cons_lt_cons_iff]
  by_cases h1 : a < b <;> by_cases h2 : a = b <;> simp [h1, h2]
theorem sLt_lex (a b : ByteArray) : sLt a b = decide (a.data.toList < b.data.toList) := by simp [sLt, ByteArray.toList_eq, bl_lex]
/-! ### lists of strings, of integers -/
def StrE : Enc ByteArray where
 enc x := [.string x]
 w := 1
 len _ := rfl
 pos := by omega
 one x v hv := by simp at hv; subst hv; rfl
def IntE : Enc Int where
 enc x := [.int .i64 x]
 w := 1
 len _ := rfl
 pos := by omega
 one x v hv := by simp at hv; subst hv; rfl
theorem Cells.str {h : Heap} {a : Addr} {x : ByteArray} (c : Cells h a (StrE.enc x)) : hget h a = some (.string x) := by
 have h0 := c 0 _ rfl
 rwa [add_zero] at h0
theorem Cells.int {h : Heap} {a : Addr} {x : Int} (c : Cells h a (IntE.enc x)) : hget h a = some (.int .i64 x) := by
 have h0 := c 0 _ rfl
 rwa [add_zero] at h0
theorem Own.lt {α : Type} {E : Enc α} {T : TypeId} {h : Heap} {s : Sl} {l : List α} (o : Own E T h s l) {b : Nat} (hb : s.blk = some b) : b < h.size := by
 rcases o.row with ⟨rfl, _⟩ | ⟨g, cur, hp, hg, _⟩
 ·simp [Sl.blk] at hb
 ·simp [Sl.blk, hp] at hb; subst hb; exact blk_lt hg
/-! ### maps of strings -/
def updM (k : ByteArray) (v : Value) : List (ByteArray × Value) → List (ByteArray × Value)
 | [] => [(k, v)]
 | p :: m => if p.1 = k then (k, v) :: m else p :: updM k v m
def lookM (k : ByteArray) (m : List (ByteArray × Value)) : Option Value := (m.find? fun p => decide (p.1 = k)).map (·.2)
def delM (k : ByteArray) (m : List (ByteArray × Value)) : List (ByteArray × Value) := m.filter fun p => !decide (p.1 = k)
theorem lookM_cons (k : ByteArray) (p : ByteArray × Value) (m : List (ByteArray × Value)) : lookM k (p :: m) = if p.1 = k then some p.2 else lookM k m := by
 unfold lookM; rw [List.find?_cons]; by_cases h : p.1 = k <;> simp [h]
structure MapOf (es : Array MapEntry) (clock : Nat) (m : List (ByteArray × Value)) : Prop where
 same : es.toList.map (fun e => (e.key, e.val)) = m.map fun p => (Value.string p.1, p.2)
 stamped : MapKept.Stamped es clock
 size : es.size ≤ maxLen
 keys : ∀ p ∈ m, p.1.size ≤ maxLen
def MapS (h : Heap) (b : Nat) (m : List (ByteArray × Value)) : Prop := ∃ es clock, h[b]? = some (.map es clock) ∧ MapOf es clock m
theorem MapS.mod {h h' : Heap} {b : Nat} {m : List (ByteArray × Value)} {S : Nat → Prop} (M : MapS h b m) (x : Mod S h h') (hS : ¬ S b) : MapS h' b m := by
 obtain ⟨es, clock, hb, e⟩ := M
 exact ⟨es, clock, x.blk hb hS, e⟩
theorem MapS.lt {h : Heap} {b : Nat} {m : List (ByteArray × Value)} (M : MapS h b m) : b < h.size := by
 obtain ⟨es, clock, hb, e⟩ := M; exact blk_lt hb
theorem MapS.empty {h : Heap} {b c : Nat} (hb : h[b]? = some (.map #[] c)) : MapS h b [] := ⟨#[], c, hb, rfl, MapKept.stamped_empty c, by simp, by simp⟩
theorem MapOf.len {es : Array MapEntry} {clock : Nat} {m : List (ByteArray × Value)} (M : MapOf es clock m) : es.size = m.length := by
 rw [← Array.length_toList]; have := congrArg List.length M.same; simpa using this
theorem MapOf.keysOf {es : Array MapEntry} {clock : Nat} {m : List (ByteArray × Value)} (M : MapOf es clock m) : es.toList.map (·.key) = m.map fun p => Value.string p.1 := by
 have := congrArg (List.map Prod.fst) M.same
 simpa [List.map_map, Function.comp_def] using this
theorem MapOf.nodup {es : Array MapEntry} {clock : Nat} {m : List (ByteArray × Value)} (M : MapOf es clock m) : (m.map (·.1)).Nodup := by
 have h1 := M.stamped.2.2
 rw [M.keysOf] at h1
 have h2 : (m.map fun p => Value.string p.1) = (m.map (·.1)).map Value.string := by simp
 rw [h2] at h1
 exact (List.pairwise_map.1 h1).imp fun hne e => hne (congrArg _ e)
theorem find_spec (k : ByteArray) (v : Value) : ∀ (es : List MapEntry) (m : List (ByteArray × Value)) (i : Nat), (es.map fun e => (e.key, e.val)) = (m.map fun p => (Value.string p.1, p.2)) →
  (Instr.findNow .string (.string k) es i = some none ∧ lookM k m = none ∧ updM k v m = m ++ [(k, v)] ∧ delM k m = m ∧ ∀ e ∈ es, e.key ≠ .string k) ∨
  ∃ j u, Instr.findNow .string (.string k) es i = some (some (i + j, u)) ∧ lookM k m = some u ∧ (∃ e, es[j]? = some e ∧ e.key = .string k) ∧ ((es.modify j fun e => { e with key := .string k, val := v }).map fun e => (e.key, e.val)) = (updM k v m).map (fun p => (Value.string p.1, p.2)) ∧
   ((m.map (·.1)).Nodup → ((es.eraseIdx j).map fun e => (e.key, e.val)) = (delM k m).map fun p => (Value.string p.1, p.2))
 | [], [], i, _ => .inl ⟨rfl, rfl, rfl, rfl, by simp⟩
 | [], _ :: _, _, h => by simp at h
 | _ :: _, [], _, h => by simp at h
 | e :: es, p :: m, i, h => by
  simp only [List.map_cons, List.cons.injEq, Prod.mk.injEq] at h
  obtain ⟨⟨h1, h2⟩, h3⟩ := h
  have hs : Instr.sameNow .string (.string k) e.key = some (decide (k = p.1)) := by
   rw [h1]
   show some (k == p.1) = _
   congr 1
   rw [Bool.eq_iff_iff, MapKept.bytes_beq]; simp
  by_cases hk : p.1 = k
  ·refine .inr ⟨0, e.val, ?_, ?_, ⟨e, rfl, by rw [h1, hk]⟩, ?_, ?_⟩
   ·unfold Instr.findNow; rw [hs, decide_eq_true hk.symm]; rfl
   ·rw [lookM_cons, if_pos hk, h2]
   ·unfold updM; rw [if_pos hk]; simp [h3]
   ·intro hnd
    have hnd := List.nodup_cons.1 hnd
    simp only [List.eraseIdx_zero, List.tail_cons]
    rw [h3]
    congr 1
    unfold delM
    rw [List.filter_cons]
    simp only [hk, decide_true, Bool.not_true, Bool.false_eq_true, if_false]
    refine (List.filter_eq_self.2 fun q hq => ?_).symm
    simp only [Bool.not_eq_true', decide_eq_false_iff_not]
    rintro rfl
    exact hnd.1 (by show p.1 ∈ _; rw [hk]; exact List.mem_map_of_mem (f := Prod.fst) hq)
  ·rcases find_spec k v es m (i + 1) h3 with ⟨a1, a2, a3, a6, a7⟩ | ⟨j, u, a1, a2, ⟨e', a3, a4⟩, a5, a6⟩
   ·refine .inl ⟨?_, ?_, ?_, ?_, ?_⟩
    ·unfold Instr.findNow; rw [hs, decide_eq_false (fun e => hk e.symm)]; exact a1
    ·rw [lookM_cons, if_neg hk]; exact a2
    ·unfold updM; rw [if_neg hk, a3]; rfl
    ·unfold delM at a6 ⊢; rw [List.filter_cons]; simp [hk]; simpa using a6
    ·intro x hx
     rcases List.mem_cons.1 hx with rfl | hx
     ·rw [h1]; intro e; injection e with e; exact hk e
     ·exact a7 x hx
   ·refine .inr ⟨j + 1, u, ?_, ?_, ⟨e', by simpa using a3, a4⟩, ?_, ?_⟩
    ·unfold Instr.findNow; rw [hs, decide_eq_false (fun e => hk e.symm)]; rw [show i + (j + 1) = i + 1 + j by omega]; exact a1
    ·rw [lookM_cons, if_neg hk]; exact a2
    ·unfold updM; rw [if_neg hk]; simp [h1, h2, a5]
    ·intro hnd
     have hnd := List.nodup_cons.1 hnd
     have := a6 hnd.2
     unfold delM at this ⊢
     rw [List.filter_cons]
     simp [hk, h1, h2]
     simpa using this
section
variable {P : Program}
theorem checkKey_str {kt : TypeId} (hk : P.underlying kt = some .string) (e : Bool) (n : Nat) (k : ByteArray) (w : World) : (Instr.checkKey e (n + 1) kt (.string k)).run P w = .ok () w := by
 simp [Instr.checkKey, run_und hk]
theorem lookup_ok {A : Amb} {t kt et : TypeId} {z : Value} (ht : P.underlying t = some (.map kt et)) (hk : P.underlying kt = some .string) (hz : (zeroValue et).calc P = some z) {h : Heap} {b : Nat} {m : List (ByteArray × Value)} {k : ByteArray} {K : Value → Heap → Prop}
  (M : MapS h b m) (H : K ((lookM k m).getD z) h) : RunK A P (Instr.lookup t (.map (some b)) (.string k) false) h K := by
 intro n
 refine ⟨_, h, n, ?_, H⟩
 obtain ⟨es, clock, hb, e⟩ := M
 have hg := MapKept.run_getObj_map (P := P) (w := A.at h n) (r := b) hb
 rcases find_spec k z es.toList m 0 e.same with ⟨a1, a2, _⟩ | ⟨j, u, a1, a2, _, _⟩
 ·simp [Instr.lookup, run_und ht, hg, checkKey_str hk, Instr.findKey, run_und hk, a1, a2, Result.andThen, calc_sound hz]
 ·simp [Instr.lookup, run_und ht, hg, checkKey_str hk, Instr.findKey, run_und hk, a1, a2, Result.andThen]
theorem updM_keys {k : ByteArray} {v : Value} : ∀ {m : List (ByteArray × Value)} {p : ByteArray × Value}, p ∈ updM k v m → p.1 = k ∨ p ∈ m
 | [], p, h => by simp [updM] at h; exact .inl (by rw [h])
 | q :: m, p, h => by
  unfold updM at h
  split at h
  ·rcases List.mem_cons.1 h with rfl | h
   ·exact .inl rfl
   ·exact .inr (List.mem_cons_of_mem _ h)
  ·rcases List.mem_cons.1 h with rfl | h
   ·exact .inr List.mem_cons_self
   ·exact (updM_keys h).imp id (List.mem_cons_of_mem _)
theorem update_ok {A : Amb} {t kt et : TypeId} (ht : P.underlying t = some (.map kt et)) (hk : P.underlying kt = some .string) {h : Heap} {b : Nat} {m : List (ByteArray × Value)} {k : ByteArray} {v : Value} {K : Heap → Prop}
  (M : MapS h b m) (hks : k.size ≤ maxLen) (hml : m.length < maxLen) (H : ∀ h', MapS h' b (updM k v m) → Mod (fun c => c = b) h h' → h'.size = h.size → K h') : RunU A P (Instr.mapUpdate t (.map (some b)) (.string k) v) h K := by
 intro n
 obtain ⟨es, clock, hb, e⟩ := M
 have hlt := blk_lt hb
 have hg := MapKept.run_getObj_map (P := P) (w := A.at h n) (r := b) hb
 have hst : ∀ o, (setObj b o).run P (A.at h n) = .ok () (A.at (h.setIfInBounds b o) n) := fun o => MapKept.run_setObj_map (P := P) (w := A.at h n) o hb
 have hkeys : ∀ p ∈ updM k v m, p.1.size ≤ maxLen := fun p hp => (updM_keys hp).elim (fun h => by rw [h]; exact hks) (e.keys p)
 have hlen := e.len
 rcases find_spec k v es.toList m 0 e.same with ⟨a1, a2, a3, _, a7⟩ | ⟨j, u, a1, a2, ⟨e', a3, a4⟩, a5, _⟩
 ·refine ⟨h.setIfInBounds b (.map (es.push { key := .string k, val := v, born := clock }) (clock + 1)), n, ?_, H _ ⟨_, _, setObj_self hlt, ?_, MapKept.stamped_push e.stamped a7, by simp; omega, hkeys⟩ (Mod.setObj rfl) (by simp)⟩
  ·simp [Instr.mapUpdate, run_und ht, hg, checkKey_str hk, Instr.findKey, run_und hk, a1, Result.andThen, hst]
  ·rw [a3]; simp [e.same]
 ·have hj : es[j]? = some e' := by simpa using a3
  refine ⟨h.setIfInBounds b (.map (es.modify j fun e => { e with key := .string k, val := v }) clock), n, ?_, H _ ⟨_, _, setObj_self hlt, ?_, MapKept.stamped_modify e.stamped _ _ (fun _ _ => rfl) (fun x _ hx => ?_), by simpa using e.size, hkeys⟩ (Mod.setObj rfl) (by simp)⟩
  ·have hstay : ∀ w, (Instr.keyThatStays (.string k) (.string k)).run P w = .ok (.string k) w := fun w => by
    have hkk : (k == k) = true := (MapKept.bytes_beq k k).2 rfl
    simp [Instr.keyThatStays, Instr.sameBits, hkk]
   simp [Instr.mapUpdate, run_und ht, hg, checkKey_str hk, Instr.findKey, run_und hk, a1, hj, a4, hstay, Result.andThen, hst]
  ·rw [Array.toList_modify]; exact a5
  ·rw [hj] at hx; cases hx; exact a4.symm
theorem delete_ok {A : Amb} {t kt et ty : TypeId} (ht : P.underlying t = some (.map kt et)) (hk : P.underlying kt = some .string) {h : Heap} {b : Nat} {m : List (ByteArray × Value)} {k : ByteArray} {K : Value → Heap → Prop}
  (M : MapS h b m) (H : ∀ h', MapS h' b (delM k m) → Mod (fun c => c = b) h h' → h'.size = h.size → K (.tuple #[]) h') : RunK A P (Builtin.delete_ #[t, kt] ty #[.map (some b), .string k]) h K := by
 intro n
 obtain ⟨es, clock, hb, e⟩ := M
 have hlt := blk_lt hb
 have hg := MapKept.run_getObj_map (P := P) (w := A.at h n) (r := b) hb
 have hst : ∀ o, (setObj b o).run P (A.at h n) = .ok () (A.at (h.setIfInBounds b o) n) := fun o => MapKept.run_setObj_map (P := P) (w := A.at h n) o hb
 have hkeys : ∀ p ∈ delM k m, p.1.size ≤ maxLen := fun p hp => e.keys p (List.mem_filter.1 hp).1
 rcases find_spec k (.bool true) es.toList m 0 e.same with ⟨a1, a2, _, a6, _⟩ | ⟨j, u, a1, a2, ⟨e', a3, a4⟩, _, a6⟩
 ·refine ⟨_, h.setIfInBounds b (.map es clock), n, ?_, H _ ⟨_, _, setObj_self hlt, by rw [a6]; exact e.same, e.stamped, e.size, hkeys⟩ (Mod.setObj rfl) (by simp)⟩
  simp [Builtin.delete_, run_und ht, hg, checkKey_str hk, Instr.findKey, run_und hk, a1, Result.andThen, hst]
 ·have hj : es[j]? = some e' := by simpa using a3
  refine ⟨_, h.setIfInBounds b (.map (es.eraseIdxIfInBounds j) clock), n, ?_, H _ ⟨_, _, setObj_self hlt, ?_, MapKept.stamped_erase e.stamped _, ?_, hkeys⟩ (Mod.setObj rfl) (by simp)⟩
  ·simp [Builtin.delete_, run_und ht, hg, checkKey_str hk, Instr.findKey, run_und hk, a1, Result.andThen, hst]
  ·have hjl := (Array.getElem?_eq_some_iff.1 hj).1
   rw [Array.eraseIdxIfInBounds, dif_pos hjl, Array.toList_eraseIdx]
   exact a6 e.nodup
  ·have : (es.eraseIdxIfInBounds j).size ≤ es.size := by
    unfold Array.eraseIdxIfInBounds; split <;> simp
   have := e.size; omega
end
/-! ### a map's keys, sorted -/
def anyR (_ : Value) : Option (DataW Unit × List MemPlace) := some (.nil, [])
theorem ins_perm {H : Type} (x : Lit × DataW H) : ∀ l : List (Lit × DataW H), (DataW.insert x l).Perm (x :: l)
 | [] => by simp [DataW.insert]
 | y :: r => by
  unfold DataW.insert
  split
  ·exact List.Perm.refl _
  ·exact ((ins_perm x r).cons y).trans (List.Perm.swap x y r)
theorem sorted_perm {H : Type} : ∀ l : List (Lit × DataW H), (l.foldr DataW.insert []).Perm l
 | [] => List.Perm.refl _
 | x :: r => (ins_perm x _).trans ((sorted_perm r).cons x)
theorem keys_owned {P : Program} {kt : TypeId} (hk : P.underlying kt = some .string) {w : World} {b : Nat} {m : List (ByteArray × Value)} (M : MapS w.heap b m) :
  ∃ D : DataW Unit, w.ownsMap P kt anyR b m.length D ∧ (strKeys D).Perm (m.map fun p => p.1.data.toList) ∧ Maps.size D = m.length := by
 obtain ⟨es, clock, hb, e⟩ := M
 have hrd : ∀ x ∈ es.toList, ∃ s : ByteArray, x.key = .string s ∧ WideElems.rd P kt anyR x = some (.string s.data.toList, .nil) := by
  intro x hx
  have : x.key ∈ m.map fun p => Value.string p.1 := by rw [← e.keysOf]; exact List.mem_map_of_mem hx
  obtain ⟨p, hp, hpx⟩ := List.mem_map.1 this
  refine ⟨p.1, hpx.symm, ?_⟩
  simp [WideElems.rd, ← hpx, Go.WideMaps.keyOf_string_mk hk (e.keys p hp), anyR]
 refine ⟨_, ⟨es, clock, hb, ⟨e.size, e.stamped, fun x hx => ?_⟩, by rw [e.len]; exact Nat.le_refl _, rfl⟩, ?_, ?_⟩
 ·obtain ⟨s, _, h2⟩ := hrd x hx; exact ⟨_, h2⟩
 ·show ((es.toList.map (WideElems.rg P kt anyR)).foldr DataW.insert [] |>.map fun p => strOf p.1).Perm _
  refine ((sorted_perm _).map _).trans ?_
  have h1 : (es.toList.map (WideElems.rg P kt anyR)).map (fun p => strOf p.1) = (es.toList.map (·.key)).map fun v => match v with | .string s => s.data.toList | _ => [] := by
   rw [List.map_map, List.map_map]
   refine List.map_congr_left fun x hx => ?_
   obtain ⟨s, h1, h2⟩ := hrd x hx
   simp [Function.comp, WideElems.rg, h2, h1, strOf]
  rw [h1, e.keysOf, List.map_map]
  exact List.Perm.of_eq (List.map_congr_left fun x _ => rfl)
 ·show ((es.toList.map (WideElems.rg P kt anyR)).foldr DataW.insert []).length = _
  rw [(sorted_perm _).length_eq]; simp [e.len]
def SortedS (l : List ByteArray) : Prop := l.Pairwise fun a b => sLt a b = true
theorem sort_names {ss : List (List UInt8)} {l : List ByteArray} (hs : SortedS l) (hp : ss.Perm (l.map fun x => x.data.toList)) : (ss.mergeSort fun x y => decide (x ≤ y)) = l.map fun x => x.data.toList := by
 have e := mergeSort_of_perm hp
 have h2 : (l.map fun x => x.data.toList).mergeSort leB = l.map fun x => x.data.toList := by
  refine List.mergeSort_of_pairwise ?_
  refine List.pairwise_map.2 (hs.imp fun {a b} hab => ?_)
  rw [sLt_lex] at hab
  simp only [decide_eq_true_eq] at hab ⊢
  exact List.le_of_lt hab
 exact e.trans h2
theorem enc_names (l : List ByteArray) : (l.map fun x => x.data.toList).map Proofs.encStr = l.flatMap StrE.enc := by
 induction l with
 | nil => rfl
 | cons x r ih => rw [List.map_cons, List.map_cons, ih, List.flatMap_cons]; rfl
end Go.Lf

/-
 Plain law: a key's hash; places on a ring; the least of hosts (chapters 6 and 11).
-/
set_option maxRecDepth 100000
set_option linter.unusedVariables false
set_option linter.unusedSimpArgs false
namespace Go.Lf
open Go
/-! ### integers without a sign -/
theorem wrap_u32 (n : Nat) : IntKind.wrap .u32 (n : Int) = ((n % 4294967296 : Nat) : Int) := by
 simp [IntKind.wrap, IntKind.bits, IntKind.signed]
theorem wrap_u64 (n : Nat) : IntKind.wrap .u64 (n : Int) = ((n % 18446744073709551616 : Nat) : Int) := by
 simp [IntKind.wrap, IntKind.bits, IntKind.signed]
theorem xor_u32 {a b : Nat} (ha : a < 4294967296) (hb : b < 4294967296) : bXor .u32 (a : Int) (b : Int) = ((a ^^^ b : Nat) : Int) := by
 have h : a ^^^ b < 2 ^ 32 := Nat.xor_lt_two_pow (by simpa using ha) (by simpa using hb)
 unfold bXor
 have e : (BitVec.ofInt (IntKind.bits .u32) (a : Int) ^^^ BitVec.ofInt (IntKind.bits .u32) (b : Int)).toNat = a ^^^ b := by
  show (BitVec.ofInt 32 (a : Int) ^^^ BitVec.ofInt 32 (b : Int)).toNat = a ^^^ b
  rw [BitVec.ofInt_natCast, BitVec.ofInt_natCast, BitVec.toNat_xor, BitVec.toNat_ofNat, BitVec.toNat_ofNat, Nat.mod_eq_of_lt (by simpa using ha), Nat.mod_eq_of_lt (by simpa using hb)]
 rw [e, wrap_u32, Nat.mod_eq_of_lt (by simpa using h)]
theorem or_u32 {a b : Nat} (ha : a < 4294967296) (hb : b < 4294967296) : bOr .u32 (a : Int) (b : Int) = ((a ||| b : Nat) : Int) := by
 have h : a ||| b < 2 ^ 32 := Nat.or_lt_two_pow (by simpa using ha) (by simpa using hb)
 unfold bOr
 have e : (BitVec.ofInt (IntKind.bits .u32) (a : Int) ||| BitVec.ofInt (IntKind.bits .u32) (b : Int)).toNat = a ||| b := by
  show (BitVec.ofInt 32 (a : Int) ||| BitVec.ofInt 32 (b : Int)).toNat = a ||| b
  rw [BitVec.ofInt_natCast, BitVec.ofInt_natCast, BitVec.toNat_or, BitVec.toNat_ofNat, BitVec.toNat_ofNat, Nat.mod_eq_of_lt (by simpa using ha), Nat.mod_eq_of_lt (by simpa using hb)]
 rw [e, wrap_u32, Nat.mod_eq_of_lt (by simpa using h)]
theorem or_u64 {a b : Nat} (ha : a < 18446744073709551616) (hb : b < 18446744073709551616) : bOr .u64 (a : Int) (b : Int) = ((a ||| b : Nat) : Int) := by
 have h : a ||| b < 2 ^ 64 := Nat.or_lt_two_pow (by simpa using ha) (by simpa using hb)
 unfold bOr
 have e : (BitVec.ofInt (IntKind.bits .u64) (a : Int) ||| BitVec.ofInt (IntKind.bits .u64) (b : Int)).toNat = a ||| b := by
  show (BitVec.ofInt 64 (a : Int) ||| BitVec.ofInt 64 (b : Int)).toNat = a ||| b
  rw [BitVec.ofInt_natCast, BitVec.ofInt_natCast, BitVec.toNat_or, BitVec.toNat_ofNat, BitVec.toNat_ofNat, Nat.mod_eq_of_lt (by simpa using ha), Nat.mod_eq_of_lt (by simpa using hb)]
 rw [e, wrap_u64, Nat.mod_eq_of_lt (by simpa using h)]
theorem mulc (n k : Nat) : ((n : Nat) : Int) * ((k : Nat) : Int) = ((n * k : Nat) : Int) := (Int.natCast_mul n k).symm
/-! ### a key's hash -/
def hA (a c : Nat) : Nat := ((a ^^^ c) * 16777619) % 4294967296
def hX (b c : Nat) : Nat := ((b + c) % 4294967296 * 2246822507) % 4294967296
def hB (b c : Nat) : Nat := hX b c ^^^ (hX b c / 8192)
def hashL (l : List UInt8) : Nat × Nat := l.foldl (fun s c => (hA s.1 c.toNat, hB s.2 c.toNat)) (2166136261, 2538058380)
def hash1 (k : ByteArray) : Nat := (hashL k.data.toList).1
def hash2 (k : ByteArray) : Nat := (hashL k.data.toList).2 ||| 1
theorem hA_lt (a c : Nat) : hA a c < 4294967296 := Nat.mod_lt _ (by decide)
theorem hX_lt (b c : Nat) : hX b c < 4294967296 := Nat.mod_lt _ (by decide)
theorem hB_lt (b c : Nat) : hB b c < 4294967296 := by
 have h1 := hX_lt b c
 have : hB b c < 2 ^ 32 := Nat.xor_lt_two_pow (by simpa using h1) (by have : hX b c / 8192 ≤ hX b c := Nat.div_le_self _ _; omega)
 simpa using this
theorem hashL_snoc (l : List UInt8) (c : UInt8) : hashL (l ++ [c]) = (hA (hashL l).1 c.toNat, hB (hashL l).2 c.toNat) := by simp [hashL]
theorem hashL_lt (l : List UInt8) : (hashL l).1 < 4294967296 ∧ (hashL l).2 < 4294967296 := by
 rw [← List.reverse_reverse l]
 cases l.reverse with
 | nil => decide
 | cons c r => rw [List.reverse_cons, hashL_snoc]; exact ⟨hA_lt _ _, hB_lt _ _⟩
theorem hash1_lt (k : ByteArray) : hash1 k < 4294967296 := (hashL_lt _).1
theorem stepA {a c : Nat} (ha : a < 4294967296) (hc : c < 256) : IntKind.wrap .u32 ((bXor .u32 (a : Int) (IntKind.wrap .u32 (c : Int))) * (16777619 : Int)) = ((hA a c : Nat) : Int) := by
 rw [wrap_u32, Nat.mod_eq_of_lt (by omega), xor_u32 ha (by omega), show ((a ^^^ c : Nat) : Int) * (16777619 : Int) = (((a ^^^ c) * 16777619 : Nat) : Int) from mulc _ 16777619, wrap_u32]; rfl
theorem stepX {b c : Nat} (hb : b < 4294967296) (hc : c < 256) : IntKind.wrap .u32 ((IntKind.wrap .u32 ((b : Int) + (IntKind.wrap .u32 (c : Int)))) * (2246822507 : Int)) = ((hX b c : Nat) : Int) := by
 rw [wrap_u32 c, Nat.mod_eq_of_lt (by omega), show ((b : Int) + (c : Int)) = ((b + c : Nat) : Int) by push_cast; rfl, wrap_u32, show (((b + c) % 4294967296 : Nat) : Int) * (2246822507 : Int) = (((b + c) % 4294967296 * 2246822507 : Nat) : Int) from mulc _ 2246822507, wrap_u32]; rfl
theorem fdiv_nat (n k : Nat) : ((n : Nat) : Int).fdiv ((2 : Int) ^ k) = ((n / 2 ^ k : Nat) : Int) := by
 rw [Int.fdiv_eq_ediv_of_nonneg _ (by have := Int.pow_pos (n := 2) (m := k) (by decide); omega)]
 push_cast; rfl
theorem stepB {b c : Nat} (hb : b < 4294967296) (hc : c < 256) : bXor .u32 (IntKind.wrap .u32 ((IntKind.wrap .u32 ((b : Int) + (IntKind.wrap .u32 (c : Int)))) * (2246822507 : Int))) ((IntKind.wrap .u32 ((IntKind.wrap .u32 ((b : Int) + (IntKind.wrap .u32 (c : Int)))) * (2246822507 : Int))).fdiv ((2 : Int) ^ (13 : Nat))) = ((hB b c : Nat) : Int) := by
 have h1 := hX_lt b c
 have h2 : hX b c / 2 ^ 13 ≤ hX b c := Nat.div_le_self _ _
 rw [stepX hb hc, fdiv_nat, xor_u32 h1 (by omega)]; rfl
theorem sAt_nat {s : ByteArray} {i : Nat} {c : UInt8} (hc : s.data.toList[i]? = some c) : sAt s ((i : Nat) : Int) = ((c.toNat : Nat) : Int) := by
 have hi : i < s.data.toList.length := (List.getElem?_eq_some_iff.1 hc).1
 have hi2 : i < s.size := by simpa using hi
 unfold sAt
 have e : ((i : Nat) : Int).toNat = i := by omega
 rw [e]
 have h2 : s[i]? = some c := by
  rw [getElem?_pos s i hi2]
  congr 1
  have h3 := (List.getElem?_eq_some_iff.1 hc).2
  rw [← h3]
  rw [Array.getElem_toList]
  rfl
 rw [h2]; rfl
/-! ### places -/
/-! ### the least -/
end Go.Lf

/-
 Plain law, no program in sight: numbers as bytes, seven bits each; readers of bytes; check sums; frames.
-/
set_option maxRecDepth 100000
set_option linter.unusedVariables false
set_option linter.unusedSimpArgs false
namespace Go.Lf
open Go
/-- bytes as a string -/
def strL (l : List UInt8) : ByteArray := ⟨l.toArray⟩
theorem strL_list (l : List UInt8) : (strL l).data.toList = l := by simp [strL]
theorem strL_of (s : ByteArray) : strL s.data.toList = s := by simp [strL]
theorem strL_size (l : List UInt8) : (strL l).size = l.length := by simp [strL, ByteArray.size]
theorem strL_inj {a b : List UInt8} : strL a = strL b ↔ a = b := ⟨fun h => by simpa [strL] using congrArg (fun s : ByteArray => s.data.toList) h, fun h => by rw [h]⟩
def byteN (n : Nat) : UInt8 := UInt8.ofNat n
theorem byteN_nat {n : Nat} (h : n < 256) : (byteN n).toNat = n := by simp [byteN, UInt8.toNat_ofNat']; omega
theorem byteN_of (c : UInt8) : byteN c.toNat = c := by simp [byteN]
/-- a number's bytes -/
def putV (n : Nat) : List UInt8 := if n < 128 then [byteN n] else byteN (n % 128 + 128) :: putV (n / 128)
termination_by n
decreasing_by omega
theorem putV_small {n : Nat} (h : n < 128) : putV n = [byteN n] := by rw [putV, if_pos h]
theorem putV_big {n : Nat} (h : ¬ n < 128) : putV n = byteN (n % 128 + 128) :: putV (n / 128) := by rw [putV, if_neg h]
/-- the number at the head, from the i-th byte on, and what stands behind it -/
def getV : Nat → Nat → List UInt8 → Option (Nat × List UInt8)
 | _, _, [] => none
 | i, a, c :: t =>
  if 10 ≤ i ∨ (i = 9 ∧ 1 < c.toNat) ∨ (0 < i ∧ c.toNat = 0) then none
  else if c.toNat < 128 then some (a + c.toNat * 128 ^ i, t) else getV (i + 1) (a + c.toNat % 128 * 128 ^ i) t
theorem pow128_le {i j : Nat} (h : i ≤ j) : 128 ^ i ≤ 128 ^ j := Nat.pow_le_pow_right (by decide) h
theorem get_put (t : List UInt8) : ∀ (n i a : Nat), n * 128 ^ i < 18446744073709551616 → (i = 0 ∨ 0 < n) → getV i a (putV n ++ t) = some (a + n * 128 ^ i, t) := by
 intro n
 induction n using Nat.strongRecOn with
 | ind n ih =>
  intro i a hb h0
  have hp : 0 < 128 ^ i := Nat.pos_of_ne_zero (Nat.pos_iff_ne_zero.1 (Nat.pow_pos (by decide)))
  by_cases hn : n < 128
  ·rw [putV_small hn]
   simp only [List.cons_append, List.nil_append, getV, byteN_nat (show n < 256 by omega)]
   rw [if_neg, if_pos hn]
   rintro (h | ⟨h, h1⟩ | ⟨h, h1⟩)
   ·have h2 := pow128_le h
    have h3 : 1 * 128 ^ i ≤ n * 128 ^ i := Nat.mul_le_mul_right _ (by omega)
    have h4 : (128 : Nat) ^ 10 = 1180591620717411303424 := by decide
    omega
   ·subst h
    have h4 : (128 : Nat) ^ 9 = 9223372036854775808 := by decide
    rw [h4] at hb
    omega
   ·omega
  ·rw [putV_big hn]
   have hd : n / 128 < n := by omega
   simp only [List.cons_append, getV, byteN_nat (show n % 128 + 128 < 256 by omega)]
   rw [if_neg, if_neg (by omega), ih (n / 128) hd]
   ·have e1 : (n % 128 + 128) % 128 = n % 128 := by omega
    rw [e1, Nat.pow_succ, Nat.add_assoc, show n % 128 * 128 ^ i + n / 128 * (128 ^ i * 128) = (n % 128 + 128 * (n / 128)) * 128 ^ i by
     rw [Nat.add_mul, Nat.mul_comm (128 ^ i) 128, ← Nat.mul_assoc, Nat.mul_comm (n / 128) 128], Nat.mod_add_div]
   ·have h2 : n / 128 * 128 ≤ n := Nat.div_mul_le_self _ _
    have h3 : n / 128 * 128 * 128 ^ i ≤ n * 128 ^ i := Nat.mul_le_mul_right _ h2
    rw [Nat.pow_succ, Nat.mul_comm (128 ^ i) 128, ← Nat.mul_assoc]
    omega
   ·omega
   ·rintro (h | ⟨h, h1⟩ | ⟨h, h1⟩)
    ·have h2 := pow128_le h
     have h3 : 128 * 128 ^ i ≤ n * 128 ^ i := Nat.mul_le_mul_right _ (by omega)
     have h4 : (128 : Nat) ^ 10 = 1180591620717411303424 := by decide
     omega
    ·subst h
     have h4 : (128 : Nat) ^ 9 = 9223372036854775808 := by decide
     rw [h4] at hb
     omega
    ·omega
/-- what is got is no longer, and its bytes are the number's -/
theorem getV_put : ∀ (l : List UInt8) (i a n : Nat) (t : List UInt8), getV i a l = some (n, t) → ∃ m, n = a + m * 128 ^ i ∧ l = putV m ++ t ∧ m * 128 ^ i < 18446744073709551616 ∧ (i = 0 ∨ 0 < m)
 | [], i, a, n, t, h => by simp [getV] at h
 | c :: l, i, a, n, t, h => by
  simp only [getV] at h
  split at h
  ·cases h
  ·rename_i hc
   have hc256 : c.toNat < 256 := c.toNat_lt
   split at h
   ·rename_i h128
    obtain ⟨rfl, rfl⟩ := h
    refine ⟨c.toNat, rfl, by rw [putV_small h128, byteN_of]; rfl, ?_, by omega⟩
    have hi : i ≤ 9 := by omega
    by_cases h9 : i = 9
    ·subst h9
     have h4 : (128 : Nat) ^ 9 = 9223372036854775808 := by decide
     rw [h4]; omega
    ·have h2 := pow128_le (show i ≤ 8 by omega)
     have h4 : (128 : Nat) ^ 8 = 72057594037927936 := by decide
     have h3 : c.toNat * 128 ^ i ≤ 127 * 128 ^ i := Nat.mul_le_mul_right _ (by omega)
     omega
   ·rename_i h128
    obtain ⟨m, e, rfl, hb, hm⟩ := getV_put l (i + 1) _ n t h
    have hm0 : 0 < m := by omega
    refine ⟨c.toNat % 128 + 128 * m, ?_, ?_, ?_, by omega⟩
    ·rw [e, Nat.pow_succ, Nat.add_mul, Nat.add_assoc, Nat.mul_comm (128 ^ i) 128, ← Nat.mul_assoc, Nat.mul_comm m 128]
    ·rw [putV_big (n := c.toNat % 128 + 128 * m) (by omega), show (c.toNat % 128 + 128 * m) % 128 + 128 = c.toNat by omega, show (c.toNat % 128 + 128 * m) / 128 = m by omega, byteN_of]; rfl
    ·rw [Nat.pow_succ, Nat.mul_comm (128 ^ i) 128, ← Nat.mul_assoc] at hb
     have h128p : (18446744073709551616 : Nat) = 144115188075855872 * 128 := by decide
     have hi8 : i ≤ 8 := by
      refine Nat.le_of_not_lt fun hh => ?_
      have h2 := pow128_le (show 9 ≤ i from hh)
      have h4 : (128 : Nat) ^ 9 = 9223372036854775808 := by decide
      have h3 : 1 * 128 * 128 ^ i ≤ m * 128 * 128 ^ i := Nat.mul_le_mul_right _ (Nat.mul_le_mul_right _ hm0)
      omega
     have e2 : (18446744073709551616 : Nat) = 128 ^ (i + 1) * (18446744073709551616 / 128 ^ (i + 1)) := by
      have : i = 0 ∨ i = 1 ∨ i = 2 ∨ i = 3 ∨ i = 4 ∨ i = 5 ∨ i = 6 ∨ i = 7 ∨ i = 8 := by omega
      rcases this with rfl | rfl | rfl | rfl | rfl | rfl | rfl | rfl | rfl <;> decide
     have hp : 0 < 128 ^ i := Nat.pos_of_ne_zero (Nat.pos_iff_ne_zero.1 (Nat.pow_pos (by decide)))
     have hlt : m < 18446744073709551616 / 128 ^ (i + 1) := by
      refine Nat.lt_of_mul_lt_mul_left (a := 128 ^ (i + 1)) ?_
      rw [← e2, Nat.pow_succ, Nat.mul_comm, Nat.mul_comm (128 ^ i) 128, ← Nat.mul_assoc]
      exact hb
     have h5 : 128 ^ (i + 1) * (m + 1) ≤ 128 ^ (i + 1) * (18446744073709551616 / 128 ^ (i + 1)) := Nat.mul_le_mul_left _ hlt
     rw [← e2, Nat.pow_succ] at h5
     have h6 : (c.toNat % 128 + 128 * m) * 128 ^ i < 128 * (m + 1) * 128 ^ i := Nat.mul_lt_mul_of_pos_right (by omega) hp
     have h7 : 128 * (m + 1) * 128 ^ i = 128 ^ i * 128 * (m + 1) := by rw [Nat.mul_comm, ← Nat.mul_assoc]
     omega
theorem putV_len : ∀ (k n : Nat), n < 128 ^ (k + 1) → (putV n).length ≤ k + 1 := by
 intro k
 induction k with
 | zero => intro n h; rw [putV_small (by simpa using h)]; simp
 | succ k ih =>
  intro n h
  by_cases hn : n < 128
  ·rw [putV_small hn]; simp
  ·rw [putV_big hn]
   have := ih (n / 128) (by rw [Nat.div_lt_iff_lt_mul (by decide), ← Nat.pow_succ]; exact h)
   simp; omega
theorem putV_len10 {n : Nat} (h : n < 18446744073709551616) : (putV n).length ≤ 10 := by
 refine putV_len 9 n (Nat.lt_of_lt_of_le h ?_)
 decide
theorem getV0 {l : List UInt8} {n : Nat} {t : List UInt8} (h : getV 0 0 l = some (n, t)) : l = putV n ++ t ∧ n < 18446744073709551616 := by
 obtain ⟨m, e, h1, h2, _⟩ := getV_put l 0 0 n t h
 simp at e h2
 subst e
 exact ⟨h1, h2⟩
theorem getV0_put {n : Nat} (h : n < 18446744073709551616) (t : List UInt8) : getV 0 0 (putV n ++ t) = some (n, t) := by
 rw [get_put t n 0 0 (by simpa using h) (.inl rfl)]; simp
/-! ### check sums -/
def crcBit (c : Nat) : Nat := if c % 2 = 1 then c / 2 ^^^ 3988292384 else c / 2
def crcIt : Nat → Nat → Nat
 | 0, c => c
 | k + 1, c => crcBit (crcIt k c)
def crcB (c : Nat) (b : UInt8) : Nat := crcIt 8 (c ^^^ b.toNat)
def crcF (l : List UInt8) : Nat := l.foldl crcB 4294967295
def crcL (l : List UInt8) : Nat := 4294967295 - crcF l
theorem crcBit_lt {c : Nat} (h : c < 4294967296) : crcBit c < 4294967296 := by
 unfold crcBit
 split
 ·exact Nat.xor_lt_two_pow (n := 32) (by omega) (by decide)
 ·omega
theorem crcIt_lt {c : Nat} (h : c < 4294967296) : ∀ k, crcIt k c < 4294967296
 | 0 => h
 | k + 1 => crcBit_lt (crcIt_lt h k)
theorem crcB_lt {c : Nat} (h : c < 4294967296) (b : UInt8) : crcB c b < 4294967296 := by
 have hb : b.toNat < 256 := b.toNat_lt
 exact crcIt_lt (Nat.xor_lt_two_pow (n := 32) h (by omega)) 8
theorem crcF_snoc (l : List UInt8) (b : UInt8) : crcF (l ++ [b]) = crcB (crcF l) b := by simp [crcF]
theorem crcF_lt (l : List UInt8) : crcF l < 4294967296 := by
 unfold crcF
 suffices ∀ (l : List UInt8) (c : Nat), c < 4294967296 → l.foldl crcB c < 4294967296 from this l _ (by decide)
 intro l
 induction l with
 | nil => exact fun c h => h
 | cons x l ih => exact fun c h => ih _ (crcB_lt h x)
/-- a sum's four bytes -/
def markL (n : Nat) : List UInt8 := [byteN (n / 16777216 % 256), byteN (n / 65536 % 256), byteN (n / 256 % 256), byteN (n % 256)]
theorem markL_len (n : Nat) : (markL n).length = 4 := rfl
/-- a frame's bytes -/
def wrapL (l : List UInt8) : List UInt8 := putV l.length ++ markL (crcL l) ++ l
/-- the frame at the head: errno, body, what stands behind it -/
def nextL (l : List UInt8) : Nat × List UInt8 × List UInt8 :=
 match getV 0 0 l with
 | none => if l.length < 10 ∧ ∀ c ∈ l, 128 ≤ c.toNat then (20, [], []) else (21, [], [])
 | some (n, r) =>
  if 1048576 < n then (21, [], []) else if r.length < 4 + n then (20, [], [])
  else if r.take 4 = markL (crcL ((r.drop 4).take n)) then (0, (r.drop 4).take n, r.drop (4 + n)) else (21, [], [])
theorem next_wrap {l : List UInt8} (h : l.length ≤ 1048576) (t : List UInt8) : nextL (wrapL l ++ t) = (0, l, t) := by
 unfold nextL wrapL
 rw [List.append_assoc, List.append_assoc, getV0_put (by omega)]
 dsimp only
 rw [if_neg (by omega), if_neg (by simp [markL_len])]
 have e1 : (markL (crcL l) ++ (l ++ t)).take 4 = markL (crcL l) := by rw [List.take_append_of_le_length (by simp [markL_len])]; exact List.take_of_length_le (by simp [markL_len])
 have e2 : (markL (crcL l) ++ (l ++ t)).drop 4 = l ++ t := by rw [List.drop_append_of_le_length (by simp [markL_len])]; simp [markL]
 have e3 : (l ++ t).take l.length = l := by simp
 rw [e1, e2, e3, if_pos rfl, ← List.drop_drop, e2]
 simp
/-! ### readers -/
structure Rd where
 rest : List UInt8
 bad : Bool
def Rd.fail : Rd := ⟨[], true⟩
def numR (r : Rd) : Nat × Rd := if r.bad then (0, r) else match getV 0 0 r.rest with | none => (0, Rd.fail) | some (n, t) => (n, ⟨t, false⟩)
def intR (most : Nat) (r : Rd) : Nat × Rd := if (numR r).2.bad then (0, (numR r).2) else if most < (numR r).1 then (0, Rd.fail) else numR r
def takeR (n : Nat) (r : Rd) : List UInt8 × Rd := if r.bad then ([], r) else if r.rest.length < n then ([], Rd.fail) else (r.rest.take n, ⟨r.rest.drop n, false⟩)
def textR (r : Rd) : List UInt8 × Rd := if (numR r).2.bad then ([], (numR r).2) else takeR (numR r).1 (numR r).2
def endR (r : Rd) : Bool := !r.bad && r.rest.isEmpty
/-- a text's bytes -/
def textL (l : List UInt8) : List UInt8 := putV l.length ++ l
theorem numR_put {n : Nat} (h : n < 18446744073709551616) (t : List UInt8) : numR ⟨putV n ++ t, false⟩ = (n, ⟨t, false⟩) := by simp [numR, getV0_put h]
theorem intR_put {n most : Nat} (h : n < 18446744073709551616) (hm : n ≤ most) (t : List UInt8) : intR most ⟨putV n ++ t, false⟩ = (n, ⟨t, false⟩) := by
 simp only [intR, numR_put h]; simp; omega
theorem takeR_put (l t : List UInt8) : takeR l.length ⟨l ++ t, false⟩ = (l, ⟨t, false⟩) := by simp [takeR]; omega
theorem textR_put {l : List UInt8} (h : l.length < 18446744073709551616) (t : List UInt8) : textR ⟨textL l ++ t, false⟩ = (l, ⟨t, false⟩) := by
 simp only [textR, textL, List.append_assoc, numR_put h, takeR_put]; simp
theorem numR_bad {r : Rd} (h : r.bad = true) : numR r = (0, r) := by simp [numR, h]
theorem len_numR (r : Rd) : (numR r).2.rest.length ≤ r.rest.length := by
 unfold numR
 split
 ·exact Nat.le_refl _
 ·split
  ·simp [Rd.fail]
  ·rename_i n t hg
   obtain ⟨e, _⟩ := getV0 hg
   rw [e]; simp
end Go.Lf

/-
 Bytes in memory: slices of bytes, and strings made of them; bits of numbers.
-/
set_option maxRecDepth 100000
set_option linter.unusedVariables false
set_option linter.unusedSimpArgs false
namespace Go.Lf
open Go
def ByteE : Enc UInt8 where
 enc x := [.int .u8 (x.toNat : Int)]
 w := 1
 len _ := rfl
 pos := by omega
 one x v hv := by simp at hv; subst hv; rfl
theorem Cells.byte {h : Heap} {a : Addr} {x : UInt8} (c : Cells h a (ByteE.enc x)) : hget h a = some (.int .u8 (x.toNat : Int)) := by
 have h0 := c 0 _ rfl
 rwa [add_zero] at h0
theorem fold_push : ∀ (l : List UInt8) (s : ByteArray), (l.map fun c => (c.toNat : Int)).foldl (fun r n => r.push (UInt8.ofNat n.toNat)) s = ⟨s.data ++ l.toArray⟩
 | [], s => by simp
 | c :: l, s => by
  simp only [List.map_cons, List.foldl_cons]
  rw [fold_push l]
  simp [ByteArray.push, Array.append_assoc]
/-- the string of a slice of bytes -/
theorem bytes_str {A : Amb} {P : Program} {src dst e : TypeId} (hs : P.underlying src = some (.slice e)) (he : P.underlying e = some (.int .u8)) (hd : P.underlying dst = some .string) {h : Heap} {s : Sl} {l : List UInt8} {K : Value → Heap → Prop}
  (v : View ByteE h s l) (H : K (.string (strL l)) h) : RunK A P (convert src dst (.slice s.p s.len s.cap)) h K := by
 have hl := v.len
 refine fun n => ⟨_, h, n, ?_, H⟩
 rw [run_convert_bytes_string _ src dst e _ s.len s.cap hs he hd]
 cases hp : s.p with
 | none =>
  have hl0 : l = [] := by
   cases l with
   | nil => rfl
   | cons c l =>
    obtain ⟨a, ha, _⟩ := v.cells 0 c rfl
    rw [hp] at ha; cases ha
  subst hl0
  simp [Conv.bytesToString, strL]
  rfl
 | some a =>
  have h1 : (loadCells a s.len).run P (A.at h n) = .ok ((l.map fun c => (c.toNat : Int)).map (Value.int .u8)).toArray (A.at h n) := by
   have := run_loadCells_list (P := P) (w := A.at h n) a ((l.map fun c => (c.toNat : Int)).map (Value.int .u8)) (fun j u hj => by
    simp only [List.getElem?_map, Option.map_map, Option.map_eq_some_iff] at hj
    obtain ⟨c, hc, rfl⟩ := hj
    obtain ⟨a', ha, hcc⟩ := v.cells j c hc
    rw [hp] at ha
    cases ha
    have := Cells.byte hcc
    simp only [ByteE, Nat.mul_one] at this
    exact this)
   simpa [hl] using this
  rw [run_bytesToString _ a s.len s.cap _ h1, fold_push]
  simp [strL, ByteArray.empty, ByteArray.emptyWithCapacity]
  rfl
/-! ### parts of strings -/
theorem ext_list (s : ByteArray) (i j : Nat) : s.extract i j = strL ((s.data.toList.take j).drop i) := by
 apply ByteArray.ext
 rw [ByteArray.data_extract, strL]
 apply Array.toList_inj.1
 simp [Array.toList_extract, List.extract_eq_take_drop, List.drop_take]
theorem size_list (s : ByteArray) : s.data.toList.length = s.size := by rw [Array.length_toList]; rfl
theorem ext_drop (s : ByteArray) (i : Nat) : s.extract i s.size = strL (s.data.toList.drop i) := by
 rw [ext_list, List.take_of_length_le (by rw [size_list]; exact Nat.le_refl _)]
theorem ext_take (s : ByteArray) (i : Nat) : s.extract 0 i = strL (s.data.toList.take i) := by
 rw [ext_list]; simp
/-! ### bits -/
theorem wrap_u8 (n : Nat) : IntKind.wrap .u8 (n : Int) = ((n % 256 : Nat) : Int) := by
 simp [IntKind.wrap, IntKind.bits, IntKind.signed]
theorem or_u8 {a b : Nat} (ha : a < 256) (hb : b < 256) : bOr .u8 (a : Int) (b : Int) = ((a ||| b : Nat) : Int) := by
 have h : a ||| b < 2 ^ 8 := Nat.or_lt_two_pow (by simpa using ha) (by simpa using hb)
 unfold bOr
 have e : (BitVec.ofInt (IntKind.bits .u8) (a : Int) ||| BitVec.ofInt (IntKind.bits .u8) (b : Int)).toNat = a ||| b := by
  show (BitVec.ofInt 8 (a : Int) ||| BitVec.ofInt 8 (b : Int)).toNat = a ||| b
  rw [BitVec.ofInt_natCast, BitVec.ofInt_natCast, BitVec.toNat_or, BitVec.toNat_ofNat, BitVec.toNat_ofNat, Nat.mod_eq_of_lt (by simpa using ha), Nat.mod_eq_of_lt (by simpa using hb)]
 rw [e, wrap_u8, Nat.mod_eq_of_lt (by simpa using h)]
theorem and_u8 {a b : Nat} (ha : a < 256) (hb : b < 256) : bAnd .u8 (a : Int) (b : Int) = ((a &&& b : Nat) : Int) := by
 have h : a &&& b < 2 ^ 8 := Nat.lt_of_le_of_lt Nat.and_le_left (by simpa using ha)
 unfold bAnd
 have e : (BitVec.ofInt (IntKind.bits .u8) (a : Int) &&& BitVec.ofInt (IntKind.bits .u8) (b : Int)).toNat = a &&& b := by
  show (BitVec.ofInt 8 (a : Int) &&& BitVec.ofInt 8 (b : Int)).toNat = a &&& b
  rw [BitVec.ofInt_natCast, BitVec.ofInt_natCast, BitVec.toNat_and, BitVec.toNat_ofNat, BitVec.toNat_ofNat, Nat.mod_eq_of_lt (by simpa using ha), Nat.mod_eq_of_lt (by simpa using hb)]
 rw [e, wrap_u8, Nat.mod_eq_of_lt (by simpa using h)]
theorem and_u32 {a b : Nat} (ha : a < 4294967296) (hb : b < 4294967296) : bAnd .u32 (a : Int) (b : Int) = ((a &&& b : Nat) : Int) := by
 have h : a &&& b < 2 ^ 32 := Nat.lt_of_le_of_lt Nat.and_le_left (by simpa using ha)
 unfold bAnd
 have e : (BitVec.ofInt (IntKind.bits .u32) (a : Int) &&& BitVec.ofInt (IntKind.bits .u32) (b : Int)).toNat = a &&& b := by
  show (BitVec.ofInt 32 (a : Int) &&& BitVec.ofInt 32 (b : Int)).toNat = a &&& b
  rw [BitVec.ofInt_natCast, BitVec.ofInt_natCast, BitVec.toNat_and, BitVec.toNat_ofNat, BitVec.toNat_ofNat, Nat.mod_eq_of_lt (by simpa using ha), Nat.mod_eq_of_lt (by simpa using hb)]
 rw [e, wrap_u32, Nat.mod_eq_of_lt (by simpa using h)]
theorem or128 : ∀ x, x < 256 → x ||| 128 = x % 128 + 128 := by decide +kernel
theorem and127 : ∀ x, x < 256 → x &&& 127 = x % 128 := by decide +kernel
/-- a byte of a number, with the mark that more come -/
theorem put_byte (n : Nat) : bOr .u8 (IntKind.wrap .u8 (n : Int)) (128 : Int) = (((byteN (n % 128 + 128)).toNat : Nat) : Int) := by
 have h := or_u8 (a := n % 256) (b := 128) (Nat.mod_lt _ (by decide)) (by decide)
 rw [wrap_u8]
 rw [show (128 : Int) = ((128 : Nat) : Int) from rfl, h, or128 _ (Nat.mod_lt _ (by decide)), byteN_nat (by omega)]
 congr 1
 omega
theorem pow7 (i : Nat) : 2 ^ (7 * i) = 128 ^ i := by rw [Nat.pow_mul]
/-- one more byte of a number that is read -/
theorem step_or {a x i : Nat} (hi : i ≤ 9) (ha : a < 128 ^ i) (hx : x < 128) : bOr .u64 (a : Int) (((x * 128 ^ i % 18446744073709551616 : Nat)) : Int) = ((a + x * 128 ^ i % 18446744073709551616 : Nat) : Int) := by
 have hp : 0 < 128 ^ i := Nat.pow_pos (by decide)
 have h9 := pow128_le hi
 have e9 : (128 : Nat) ^ 9 = 9223372036854775808 := by decide
 rw [or_u64 (by omega) (Nat.mod_lt _ (by decide))]
 congr 1
 have e2 : ∃ q, (18446744073709551616 : Nat) = 128 ^ i * q := by
  have : i = 0 ∨ i = 1 ∨ i = 2 ∨ i = 3 ∨ i = 4 ∨ i = 5 ∨ i = 6 ∨ i = 7 ∨ i = 8 ∨ i = 9 := by omega
  refine ⟨18446744073709551616 / 128 ^ i, ?_⟩
  rcases this with rfl | rfl | rfl | rfl | rfl | rfl | rfl | rfl | rfl | rfl <;> decide
 obtain ⟨q, e2⟩ := e2
 rw [e2, Nat.mul_comm x, Nat.mul_mod_mul_left, ← pow7, Nat.or_comm, Nat.add_comm]
 exact (Nat.two_pow_add_eq_or_of_lt (by rw [pow7]; exact ha) _).symm
theorem shift7 {x i : Nat} (hi : i ≤ 9) (hx : x < 128) : IntKind.wrap .u64 (((x : Nat) : Int) * ((2 : Int) ^ (min ((7 * i : Nat) : Int).toNat (IntKind.bits .u64)))) = ((x * 128 ^ i % 18446744073709551616 : Nat) : Int) := by
 have e : min ((7 * i : Nat) : Int).toNat (IntKind.bits .u64) = 7 * i := by
  have : IntKind.bits .u64 = 64 := rfl
  omega
 rw [e, show ((2 : Int) ^ (7 * i)) = ((2 ^ (7 * i) : Nat) : Int) by simp, mulc, wrap_u64, pow7]
/-- what came to be behind h may be changed -/
theorem Mod.more {h h1 h2 : Heap} {S : Nat → Prop} (x : Ext h h1) (m : Mod S h1 h2) (hS : ∀ b, S b → h.size ≤ b) : Ext h h2 :=
 Mod.then x (m.weak fun c _ hc => .inr (hS c hc))
end Go.Lf

