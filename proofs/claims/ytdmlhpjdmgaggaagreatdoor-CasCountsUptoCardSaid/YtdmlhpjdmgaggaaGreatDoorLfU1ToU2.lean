/-
 LIFT, part U1: strings in order; lists of strings; maps of strings, with their stamps.
-/
import Derived.Test.YtdmlhpjdmgaggaaGreatDoorLfKToU6
import Derived.MapKept
import Derived.Maps.Own
import Derived.Lib.Bytealg
import Derived.Sort.KeysCollected
import Derived.StringKeys
import Derived.Laws.BytesString
import Derived.Laws.BytesArg
set_option linter.unusedVariables false
set_option linter.unusedSimpArgs false
set_option maxRecDepth 100000
namespace Go.Lf
open Go
theorem toList_inj {a b : ByteArray} : (a.toList == b.toList) = decide (a = b) := by
 rw [ByteArray.toList_eq, ByteArray.toList_eq]
 rw [Bool.eq_iff_iff]
 simp [ByteArray.ext_iff, ← Array.toList_inj]
theorem BO {a b : ByteArray} : sEq a b = decide (a = b) := toList_inj
theorem MO : ∀ (a : List UInt8), Op.bytesLess a a = false
 | [] => rfl
 | a :: x => by simp [Op.bytesLess, MO x]
theorem V8 : ∀ (a b : List UInt8), Op.bytesLess a b = false → Op.bytesLess b a = false → a = b
 | [], [], _, _ => rfl
 | [], _ :: _, h, _ => by simp [Op.bytesLess] at h
 | _ :: _, [], _, h => by simp [Op.bytesLess] at h
 | a :: x, b :: y, h1, h2 => by
  simp only [Op.bytesLess, Bool.or_eq_false_iff, Bool.and_eq_false_iff, decide_eq_false_iff_not, beq_eq_false_iff_ne] at h1 h2
  have hab : a = b := by
   have h3 := h1.1; have h4 := h2.1
   exact UInt8.le_antisymm (UInt8.not_lt.1 h4) (UInt8.not_lt.1 h3)
  subst hab
  rw [V8 x y (h1.2.resolve_left (by simp)) (h2.2.resolve_left (by simp))]
theorem Oq : ∀ (a b c : List UInt8), Op.bytesLess a b = true → Op.bytesLess b c = true → Op.bytesLess a c = true
 | _, [], _, h, _ => by simp [Op.bytesLess] at h
 | _, _ :: _, [], _, h => by simp [Op.bytesLess] at h
 | [], _ :: _, _ :: _, _, _ => by simp [Op.bytesLess]
 | a :: x, b :: y, c :: z, h1, h2 => by
  simp only [Op.bytesLess, Bool.or_eq_true, Bool.and_eq_true, decide_eq_true_eq, beq_iff_eq] at h1 h2 ⊢
  rcases h1 with h1 | ⟨rfl, h1⟩
  ·rcases h2 with h2 | ⟨rfl, h2⟩
   ·exact .inl (UInt8.lt_trans h1 h2)
   ·exact .inl h1
  ·rcases h2 with h2 | ⟨rfl, h2⟩
   ·exact .inl h2
   ·exact .inr ⟨rfl, Oq x y z h1 h2⟩
theorem BL (a : ByteArray) : sLt a a = false := MO _
theorem CG {a b c : ByteArray} (h1 : sLt a b = true) (h2 : sLt b c = true) : sLt a c = true := Oq _ _ _ h1 h2
theorem Jj {a b : ByteArray} (h1 : sLt a b = false) (h2 : sLt b a = false) : a = b := by
 have := V8 _ _ h1 h2
 have h3 : sEq a b = true := by simp [sEq, this]
 rw [BO] at h3
 simpa using h3
theorem Li {a b : ByteArray} (h1 : sLt a b = true) : sLt b a = false := by
 cases h : sLt b a
 ·rfl
 ·have := CG h1 h; rw [BL] at this; cases this
theorem Jg {a b : ByteArray} (h : sLt a b = true) : a ≠ b := by rintro rfl; rw [BL] at h; cases h
theorem AAr {a b c : ByteArray} (h1 : sLt a b = true) (h2 : sLt c b = false) : sLt a c = true := by
 cases h : sLt b c
 ·rw [Jj h2 h]; exact h1
 ·exact CG h1 h
theorem SX {a b c : ByteArray} (h1 : sLt b a = false) (h2 : sLt c b = false) : sLt c a = false := by
 cases h : sLt c a
 ·rfl
 ·have := AAr h h1; rw [this] at h2; cases h2
theorem AGt : ∀ (a b : List UInt8), Op.bytesLess a b = decide (a < b)
 | [], [] => by simp [Op.bytesLess]
 | [], _ :: _ => by simp [Op.bytesLess]
 | _ :: _, [] => by simp [Op.bytesLess]
 | a :: x, b :: y => by
  simp only [Op.bytesLess, AGt x y, List.cons_lt_cons_iff]
  by_cases h1 : a < b <;> by_cases h2 : a = b <;> simp [h1, h2]
theorem VA (a b : ByteArray) : sLt a b = decide (a.data.toList < b.data.toList) := by simp [sLt, ByteArray.toList_eq, AGt]
def FI : Enc ByteArray where
 enc x := [.string x]
 w := 1
 len _ := rfl
 pos := by omega
 one x v hv := by simp at hv; subst hv; rfl
def E8 : Enc Int where
 enc x := [.int .i64 x]
 w := 1
 len _ := rfl
 pos := by omega
 one x v hv := by simp at hv; subst hv; rfl
theorem Cells.str {h : Heap} {a : Addr} {x : ByteArray} (c : Cells h a (FI.enc x)) : hget h a = some (.string x) := by
 have h0 := c 0 _ rfl
 rwa [add_zero] at h0
theorem Cells.int {h : Heap} {a : Addr} {x : Int} (c : Cells h a (E8.enc x)) : hget h a = some (.int .i64 x) := by
 have h0 := c 0 _ rfl
 rwa [add_zero] at h0
theorem Own.lt {α : Type} {E : Enc α} {T : TypeId} {h : Heap} {s : Sl} {l : List α} (o : Own E T h s l) {b : Nat} (hb : s.blk = some b) : b < h.size := by
 rcases o.row with ⟨rfl, _⟩ | ⟨g, cur, hp, hg, _⟩
 ·simp [Sl.blk] at hb
 ·simp [Sl.blk, hp] at hb; subst hb; exact Ak hg
def TG (k : ByteArray) (v : Value) : List (ByteArray × Value) → List (ByteArray × Value)
 | [] => [(k, v)]
 | p :: m => if p.1 = k then (k, v) :: m else p :: TG k v m
def Nf (k : ByteArray) (m : List (ByteArray × Value)) : Option Value := (m.find? fun p => decide (p.1 = k)).map (·.2)
def AAV (k : ByteArray) (m : List (ByteArray × Value)) : List (ByteArray × Value) := m.filter fun p => !decide (p.1 = k)
theorem KZ (k : ByteArray) (p : ByteArray × Value) (m : List (ByteArray × Value)) : Nf k (p :: m) = if p.1 = k then some p.2 else Nf k m := by
 unfold Nf; rw [List.find?_cons]; by_cases h : p.1 = k <;> simp [h]
structure MapOf (es : Array MapEntry) (clock : Nat) (m : List (ByteArray × Value)) : Prop where
 same : es.toList.map (fun e => (e.key, e.val)) = m.map fun p => (Value.string p.1, p.2)
 stamped : MapKept.Stamped es clock
 size : es.size ≤ maxLen
 keys : ∀ p ∈ m, p.1.size ≤ maxLen
def Ob (h : Heap) (b : Nat) (m : List (ByteArray × Value)) : Prop := ∃ es clock, h[b]? = some (.map es clock) ∧ MapOf es clock m
theorem Ob.mod {h h' : Heap} {b : Nat} {m : List (ByteArray × Value)} {S : Nat → Prop} (M : Ob h b m) (x : Mod S h h') (hS : ¬ S b) : Ob h' b m := by
 obtain ⟨es, clock, hb, e⟩ := M
 exact ⟨es, clock, x.blk hb hS, e⟩
theorem Ob.lt {h : Heap} {b : Nat} {m : List (ByteArray × Value)} (M : Ob h b m) : b < h.size := by
 obtain ⟨es, clock, hb, e⟩ := M; exact Ak hb
theorem Ob.empty {h : Heap} {b c : Nat} (hb : h[b]? = some (.map #[] c)) : Ob h b [] := ⟨#[], c, hb, rfl, MapKept.stamped_empty c, by simp, by simp⟩
theorem MapOf.len {es : Array MapEntry} {clock : Nat} {m : List (ByteArray × Value)} (M : MapOf es clock m) : es.size = m.length := by
 rw [← Array.length_toList]; have := congrArg List.length M.same; simpa using this
theorem MapOf.keysOf {es : Array MapEntry} {clock : Nat} {m : List (ByteArray × Value)} (M : MapOf es clock m) : es.toList.map (·.key) = m.map fun p => Value.string p.1 := by
 have := congrArg (List.map Prod.fst) M.same
 simpa [List.map_map, Function.comp_def] using this
theorem MapOf.nodup {es : Array MapEntry} {clock : Nat} {m : List (ByteArray × Value)} (M : MapOf es clock m) : (m.map (·.1)).Nodup := by
 have h1 := M.stamped.2.2
 rw [M.keysOf] at h1
 have h2 : (m.map fun p => Value.string p.1) = (m.map (·.1)).map Value.string := by simp
 rw [h2] at h1
 exact (List.pairwise_map.1 h1).imp fun hne e => hne (congrArg _ e)
theorem PG (k : ByteArray) (v : Value) : ∀ (es : List MapEntry) (m : List (ByteArray × Value)) (i : Nat), (es.map fun e => (e.key, e.val)) = (m.map fun p => (Value.string p.1, p.2)) →
  (Instr.findNow .string (.string k) es i = some none ∧ Nf k m = none ∧ TG k v m = m ++ [(k, v)] ∧ AAV k m = m ∧ ∀ e ∈ es, e.key ≠ .string k) ∨
  ∃ j u, Instr.findNow .string (.string k) es i = some (some (i + j, u)) ∧ Nf k m = some u ∧ (∃ e, es[j]? = some e ∧ e.key = .string k) ∧ ((es.modify j fun e => { e with key := .string k, val := v }).map fun e => (e.key, e.val)) = (TG k v m).map (fun p => (Value.string p.1, p.2)) ∧
   ((m.map (·.1)).Nodup → ((es.eraseIdx j).map fun e => (e.key, e.val)) = (AAV k m).map fun p => (Value.string p.1, p.2))
 | [], [], i, _ => .inl ⟨rfl, rfl, rfl, rfl, by simp⟩
 | [], _ :: _, _, h => by simp at h
 | _ :: _, [], _, h => by simp at h
 | e :: es, p :: m, i, h => by
  simp only [List.map_cons, List.cons.injEq, Prod.mk.injEq] at h
  obtain ⟨⟨h1, h2⟩, h3⟩ := h
  have hs : Instr.sameNow .string (.string k) e.key = some (decide (k = p.1)) := by
   rw [h1]
   show some (k == p.1) = _
   congr 1
   rw [Bool.eq_iff_iff, MapKept.bytes_beq]; simp
  by_cases hk : p.1 = k
  ·refine .inr ⟨0, e.val, ?_, ?_, ⟨e, rfl, by rw [h1, hk]⟩, ?_, ?_⟩
   ·unfold Instr.findNow; rw [hs, decide_eq_true hk.symm]; rfl
   ·rw [KZ, if_pos hk, h2]
   ·unfold TG; rw [if_pos hk]; simp [h3]
   ·intro hnd
    have hnd := List.nodup_cons.1 hnd
    simp only [List.eraseIdx_zero, List.tail_cons]
    rw [h3]
    congr 1
    unfold AAV
    rw [List.filter_cons]
    simp only [hk, decide_true, Bool.not_true, Bool.false_eq_true, if_false]
    refine (List.filter_eq_self.2 fun q hq => ?_).symm
    simp only [Bool.not_eq_true', decide_eq_false_iff_not]
    rintro rfl
    exact hnd.1 (by show p.1 ∈ _; rw [hk]; exact List.mem_map_of_mem (f := Prod.fst) hq)
  ·rcases PG k v es m (i + 1) h3 with ⟨a1, a2, a3, a6, a7⟩ | ⟨j, u, a1, a2, ⟨e', a3, a4⟩, a5, a6⟩
   ·refine .inl ⟨?_, ?_, ?_, ?_, ?_⟩
    ·unfold Instr.findNow; rw [hs, decide_eq_false (fun e => hk e.symm)]; exact a1
    ·rw [KZ, if_neg hk]; exact a2
    ·unfold TG; rw [if_neg hk, a3]; rfl
    ·unfold AAV at a6 ⊢; rw [List.filter_cons]; simp [hk]; simpa using a6
    ·intro x hx
     rcases List.mem_cons.1 hx with rfl | hx
     ·rw [h1]; intro e; injection e with e; exact hk e
     ·exact a7 x hx
   ·refine .inr ⟨j + 1, u, ?_, ?_, ⟨e', by simpa using a3, a4⟩, ?_, ?_⟩
    ·unfold Instr.findNow; rw [hs, decide_eq_false (fun e => hk e.symm)]; rw [show i + (j + 1) = i + 1 + j by omega]; exact a1
    ·rw [KZ, if_neg hk]; exact a2
    ·unfold TG; rw [if_neg hk]; simp [h1, h2, a5]
    ·intro hnd
     have hnd := List.nodup_cons.1 hnd
     have := a6 hnd.2
     unfold AAV at this ⊢
     rw [List.filter_cons]
     simp [hk, h1, h2]
     simpa using this
section
variable {P : Program}
theorem GX {kt : TypeId} (hk : P.underlying kt = some .string) (e : Bool) (n : Nat) (k : ByteArray) (w : World) : (Instr.checkKey e (n + 1) kt (.string k)).run P w = .ok () w := by
 simp [Instr.checkKey, Bc hk]
theorem Jv {A : Amb} {t kt et : TypeId} {z : Value} (ht : P.underlying t = some (.map kt et)) (hk : P.underlying kt = some .string) (hz : (zeroValue et).calc P = some z) {h : Heap} {b : Nat} {m : List (ByteArray × Value)} {k : ByteArray} {K : Value → Heap → Prop}
  (M : Ob h b m) (H : K ((Nf k m).getD z) h) : Bb A P (Instr.lookup t (.map (some b)) (.string k) false) h K := by
 intro n
 refine ⟨_, h, n, ?_, H⟩
 obtain ⟨es, clock, hb, e⟩ := M
 have hg := MapKept.run_getObj_map (P := P) (w := A.at h n) (r := b) hb
 rcases PG k z es.toList m 0 e.same with ⟨a1, a2, _⟩ | ⟨j, u, a1, a2, _, _⟩
 ·simp [Instr.lookup, Bc ht, hg, GX hk, Instr.findKey, Bc hk, a1, a2, Result.andThen, Mv hz]
 ·simp [Instr.lookup, Bc ht, hg, GX hk, Instr.findKey, Bc hk, a1, a2, Result.andThen]
theorem ZN {k : ByteArray} {v : Value} : ∀ {m : List (ByteArray × Value)} {p : ByteArray × Value}, p ∈ TG k v m → p.1 = k ∨ p ∈ m
 | [], p, h => by simp [TG] at h; exact .inl (by rw [h])
 | q :: m, p, h => by
  unfold TG at h
  split at h
  ·rcases List.mem_cons.1 h with rfl | h
   ·exact .inl rfl
   ·exact .inr (List.mem_cons_of_mem _ h)
  ·rcases List.mem_cons.1 h with rfl | h
   ·exact .inr List.mem_cons_self
   ·exact (ZN h).imp id (List.mem_cons_of_mem _)
theorem Za {A : Amb} {t kt et : TypeId} (ht : P.underlying t = some (.map kt et)) (hk : P.underlying kt = some .string) {h : Heap} {b : Nat} {m : List (ByteArray × Value)} {k : ByteArray} {v : Value} {K : Heap → Prop}
  (M : Ob h b m) (hks : k.size ≤ maxLen) (hml : m.length < maxLen) (H : ∀ h', Ob h' b (TG k v m) → Mod (fun c => c = b) h h' → h'.size = h.size → K h') : AC9 A P (Instr.mapUpdate t (.map (some b)) (.string k) v) h K := by
 intro n
 obtain ⟨es, clock, hb, e⟩ := M
 have hlt := Ak hb
 have hg := MapKept.run_getObj_map (P := P) (w := A.at h n) (r := b) hb
 have hst : ∀ o, (setObj b o).run P (A.at h n) = .ok () (A.at (h.setIfInBounds b o) n) := fun o => MapKept.run_setObj_map (P := P) (w := A.at h n) o hb
 have hkeys : ∀ p ∈ TG k v m, p.1.size ≤ maxLen := fun p hp => (ZN hp).elim (fun h => by rw [h]; exact hks) (e.keys p)
 have hlen := e.len
 rcases PG k v es.toList m 0 e.same with ⟨a1, a2, a3, _, a7⟩ | ⟨j, u, a1, a2, ⟨e', a3, a4⟩, a5, _⟩
 ·refine ⟨h.setIfInBounds b (.map (es.push { key := .string k, val := v, born := clock }) (clock + 1)), n, ?_, H _ ⟨_, _, DR hlt, ?_, MapKept.stamped_push e.stamped a7, by simp; omega, hkeys⟩ (Mod.setObj rfl) (by simp)⟩
  ·simp [Instr.mapUpdate, Bc ht, hg, GX hk, Instr.findKey, Bc hk, a1, Result.andThen, hst]
  ·rw [a3]; simp [e.same]
 ·have hj : es[j]? = some e' := by simpa using a3
  refine ⟨h.setIfInBounds b (.map (es.modify j fun e => { e with key := .string k, val := v }) clock), n, ?_, H _ ⟨_, _, DR hlt, ?_, MapKept.stamped_modify e.stamped _ _ (fun _ _ => rfl) (fun x _ hx => ?_), by simpa using e.size, hkeys⟩ (Mod.setObj rfl) (by simp)⟩
  ·have hstay : ∀ w, (Instr.keyThatStays (.string k) (.string k)).run P w = .ok (.string k) w := fun w => by
    have hkk : (k == k) = true := (MapKept.bytes_beq k k).2 rfl
    simp [Instr.keyThatStays, Instr.sameBits, hkk]
   simp [Instr.mapUpdate, Bc ht, hg, GX hk, Instr.findKey, Bc hk, a1, hj, a4, hstay, Result.andThen, hst]
  ·rw [Array.toList_modify]; exact a5
  ·rw [hj] at hx; cases hx; exact a4.symm
theorem AFh {A : Amb} {t kt et ty : TypeId} (ht : P.underlying t = some (.map kt et)) (hk : P.underlying kt = some .string) {h : Heap} {b : Nat} {m : List (ByteArray × Value)} {k : ByteArray} {K : Value → Heap → Prop}
  (M : Ob h b m) (H : ∀ h', Ob h' b (AAV k m) → Mod (fun c => c = b) h h' → h'.size = h.size → K (.tuple #[]) h') : Bb A P (Builtin.delete_ #[t, kt] ty #[.map (some b), .string k]) h K := by
 intro n
 obtain ⟨es, clock, hb, e⟩ := M
 have hlt := Ak hb
 have hg := MapKept.run_getObj_map (P := P) (w := A.at h n) (r := b) hb
 have hst : ∀ o, (setObj b o).run P (A.at h n) = .ok () (A.at (h.setIfInBounds b o) n) := fun o => MapKept.run_setObj_map (P := P) (w := A.at h n) o hb
 have hkeys : ∀ p ∈ AAV k m, p.1.size ≤ maxLen := fun p hp => e.keys p (List.mem_filter.1 hp).1
 rcases PG k (.bool true) es.toList m 0 e.same with ⟨a1, a2, _, a6, _⟩ | ⟨j, u, a1, a2, ⟨e', a3, a4⟩, _, a6⟩
 ·refine ⟨_, h.setIfInBounds b (.map es clock), n, ?_, H _ ⟨_, _, DR hlt, by rw [a6]; exact e.same, e.stamped, e.size, hkeys⟩ (Mod.setObj rfl) (by simp)⟩
  simp [Builtin.delete_, Bc ht, hg, GX hk, Instr.findKey, Bc hk, a1, Result.andThen, hst]
 ·have hj : es[j]? = some e' := by simpa using a3
  refine ⟨_, h.setIfInBounds b (.map (es.eraseIdxIfInBounds j) clock), n, ?_, H _ ⟨_, _, DR hlt, ?_, MapKept.stamped_erase e.stamped _, ?_, hkeys⟩ (Mod.setObj rfl) (by simp)⟩
  ·simp [Builtin.delete_, Bc ht, hg, GX hk, Instr.findKey, Bc hk, a1, Result.andThen, hst]
  ·have hjl := (Array.getElem?_eq_some_iff.1 hj).1
   rw [Array.eraseIdxIfInBounds, dif_pos hjl, Array.toList_eraseIdx]
   exact a6 e.nodup
  ·have : (es.eraseIdxIfInBounds j).size ≤ es.size := by
    unfold Array.eraseIdxIfInBounds; split <;> simp
   have := e.size; omega
end
def AJm (_ : Value) : Option (DataW Unit × List MemPlace) := some (.nil, [])
theorem ABW {H : Type} (x : Lit × DataW H) : ∀ l : List (Lit × DataW H), (DataW.insert x l).Perm (x :: l)
 | [] => by simp [DataW.insert]
 | y :: r => by
  unfold DataW.insert
  split
  ·exact List.Perm.refl _
  ·exact ((ABW x r).cons y).trans (List.Perm.swap x y r)
theorem sorted_perm {H : Type} : ∀ l : List (Lit × DataW H), (l.foldr DataW.insert []).Perm l
 | [] => List.Perm.refl _
 | x :: r => (ABW x _).trans ((sorted_perm r).cons x)
theorem AEG {P : Program} {kt : TypeId} (hk : P.underlying kt = some .string) {w : World} {b : Nat} {m : List (ByteArray × Value)} (M : Ob w.heap b m) :
  ∃ D : DataW Unit, w.ownsMap P kt AJm b m.length D ∧ (strKeys D).Perm (m.map fun p => p.1.data.toList) ∧ Maps.size D = m.length := by
 obtain ⟨es, clock, hb, e⟩ := M
 have hrd : ∀ x ∈ es.toList, ∃ s : ByteArray, x.key = .string s ∧ WideElems.rd P kt AJm x = some (.string s.data.toList, .nil) := by
  intro x hx
  have : x.key ∈ m.map fun p => Value.string p.1 := by rw [← e.keysOf]; exact List.mem_map_of_mem hx
  obtain ⟨p, hp, hpx⟩ := List.mem_map.1 this
  refine ⟨p.1, hpx.symm, ?_⟩
  simp [WideElems.rd, ← hpx, Go.WideMaps.keyOf_string_mk hk (e.keys p hp), AJm]
 refine ⟨_, ⟨es, clock, hb, ⟨e.size, e.stamped, fun x hx => ?_⟩, by rw [e.len]; exact Nat.le_refl _, rfl⟩, ?_, ?_⟩
 ·obtain ⟨s, _, h2⟩ := hrd x hx; exact ⟨_, h2⟩
 ·show ((es.toList.map (WideElems.rg P kt AJm)).foldr DataW.insert [] |>.map fun p => strOf p.1).Perm _
  refine ((sorted_perm _).map _).trans ?_
  have h1 : (es.toList.map (WideElems.rg P kt AJm)).map (fun p => strOf p.1) = (es.toList.map (·.key)).map fun v => match v with | .string s => s.data.toList | _ => [] := by
   rw [List.map_map, List.map_map]
   refine List.map_congr_left fun x hx => ?_
   obtain ⟨s, h1, h2⟩ := hrd x hx
   simp [Function.comp, WideElems.rg, h2, h1, strOf]
  rw [h1, e.keysOf, List.map_map]
  exact List.Perm.of_eq (List.map_congr_left fun x _ => rfl)
 ·show ((es.toList.map (WideElems.rg P kt AJm)).foldr DataW.insert []).length = _
  rw [(sorted_perm _).length_eq]; simp [e.len]
def VD (l : List ByteArray) : Prop := l.Pairwise fun a b => sLt a b = true
theorem ADE {ss : List (List UInt8)} {l : List ByteArray} (hs : VD l) (hp : ss.Perm (l.map fun x => x.data.toList)) : (ss.mergeSort fun x y => decide (x ≤ y)) = l.map fun x => x.data.toList := by
 have e := mergeSort_of_perm hp
 have h2 : (l.map fun x => x.data.toList).mergeSort leB = l.map fun x => x.data.toList := by
  refine List.mergeSort_of_pairwise ?_
  refine List.pairwise_map.2 (hs.imp fun {a b} hab => ?_)
  rw [VA] at hab
  simp only [decide_eq_true_eq] at hab ⊢
  exact List.le_of_lt hab
 exact e.trans h2
theorem AFK (l : List ByteArray) : (l.map fun x => x.data.toList).map Proofs.encStr = l.flatMap FI.enc := by
 induction l with
 | nil => rfl
 | cons x r ih => rw [List.map_cons, List.map_cons, ih, List.flatMap_cons]; rfl
end Go.Lf

/-
 Plain law: a key's hash; places on a ring; the least of hosts (chapters 6 and 11).
-/
set_option maxRecDepth 100000
set_option linter.unusedVariables false
set_option linter.unusedSimpArgs false
namespace Go.Lf
open Go
theorem wrap_u32 (n : Nat) : IntKind.wrap .u32 (n : Int) = ((n % 4294967296 : Nat) : Int) := by
 simp [IntKind.wrap, IntKind.bits, IntKind.signed]
theorem wrap_u64 (n : Nat) : IntKind.wrap .u64 (n : Int) = ((n % 18446744073709551616 : Nat) : Int) := by
 simp [IntKind.wrap, IntKind.bits, IntKind.signed]
theorem PM {a b : Nat} (ha : a < 4294967296) (hb : b < 4294967296) : Te .u32 (a : Int) (b : Int) = ((a ^^^ b : Nat) : Int) := by
 have h : a ^^^ b < 2 ^ 32 := Nat.xor_lt_two_pow (by simpa using ha) (by simpa using hb)
 unfold Te
 have e : (BitVec.ofInt (IntKind.bits .u32) (a : Int) ^^^ BitVec.ofInt (IntKind.bits .u32) (b : Int)).toNat = a ^^^ b := by
  show (BitVec.ofInt 32 (a : Int) ^^^ BitVec.ofInt 32 (b : Int)).toNat = a ^^^ b
  rw [BitVec.ofInt_natCast, BitVec.ofInt_natCast, BitVec.toNat_xor, BitVec.toNat_ofNat, BitVec.toNat_ofNat, Nat.mod_eq_of_lt (by simpa using ha), Nat.mod_eq_of_lt (by simpa using hb)]
 rw [e, wrap_u32, Nat.mod_eq_of_lt (by simpa using h)]
theorem AJf {a b : Nat} (ha : a < 4294967296) (hb : b < 4294967296) : bOr .u32 (a : Int) (b : Int) = ((a ||| b : Nat) : Int) := by
 have h : a ||| b < 2 ^ 32 := Nat.or_lt_two_pow (by simpa using ha) (by simpa using hb)
 unfold bOr
 have e : (BitVec.ofInt (IntKind.bits .u32) (a : Int) ||| BitVec.ofInt (IntKind.bits .u32) (b : Int)).toNat = a ||| b := by
  show (BitVec.ofInt 32 (a : Int) ||| BitVec.ofInt 32 (b : Int)).toNat = a ||| b
  rw [BitVec.ofInt_natCast, BitVec.ofInt_natCast, BitVec.toNat_or, BitVec.toNat_ofNat, BitVec.toNat_ofNat, Nat.mod_eq_of_lt (by simpa using ha), Nat.mod_eq_of_lt (by simpa using hb)]
 rw [e, wrap_u32, Nat.mod_eq_of_lt (by simpa using h)]
theorem AJ3 {a b : Nat} (ha : a < 18446744073709551616) (hb : b < 18446744073709551616) : bOr .u64 (a : Int) (b : Int) = ((a ||| b : Nat) : Int) := by
 have h : a ||| b < 2 ^ 64 := Nat.or_lt_two_pow (by simpa using ha) (by simpa using hb)
 unfold bOr
 have e : (BitVec.ofInt (IntKind.bits .u64) (a : Int) ||| BitVec.ofInt (IntKind.bits .u64) (b : Int)).toNat = a ||| b := by
  show (BitVec.ofInt 64 (a : Int) ||| BitVec.ofInt 64 (b : Int)).toNat = a ||| b
  rw [BitVec.ofInt_natCast, BitVec.ofInt_natCast, BitVec.toNat_or, BitVec.toNat_ofNat, BitVec.toNat_ofNat, Nat.mod_eq_of_lt (by simpa using ha), Nat.mod_eq_of_lt (by simpa using hb)]
 rw [e, wrap_u64, Nat.mod_eq_of_lt (by simpa using h)]
theorem AJy (n k : Nat) : ((n : Nat) : Int) * ((k : Nat) : Int) = ((n * k : Nat) : Int) := (Int.natCast_mul n k).symm
def hA (a c : Nat) : Nat := ((a ^^^ c) * 16777619) % 4294967296
def hX (b c : Nat) : Nat := ((b + c) % 4294967296 * 2246822507) % 4294967296
def hB (b c : Nat) : Nat := hX b c ^^^ (hX b c / 8192)
def OU (l : List UInt8) : Nat × Nat := l.foldl (fun s c => (hA s.1 c.toNat, hB s.2 c.toNat)) (2166136261, 2538058380)
def AFE (k : ByteArray) : Nat := (OU k.data.toList).1
def AEp (k : ByteArray) : Nat := (OU k.data.toList).2 ||| 1
theorem AKU (a c : Nat) : hA a c < 4294967296 := Nat.mod_lt _ (by decide)
theorem AJE (b c : Nat) : hX b c < 4294967296 := Nat.mod_lt _ (by decide)
theorem AKN (b c : Nat) : hB b c < 4294967296 := by
 have h1 := AJE b c
 have : hB b c < 2 ^ 32 := Nat.xor_lt_two_pow (by simpa using h1) (by have : hX b c / 8192 ≤ hX b c := Nat.div_le_self _ _; omega)
 simpa using this
theorem Wp (l : List UInt8) (c : UInt8) : OU (l ++ [c]) = (hA (OU l).1 c.toNat, hB (OU l).2 c.toNat) := by simp [OU]
theorem ABx (l : List UInt8) : (OU l).1 < 4294967296 ∧ (OU l).2 < 4294967296 := by
 rw [← List.reverse_reverse l]
 cases l.reverse with
 | nil => decide
 | cons c r => rw [List.reverse_cons, Wp]; exact ⟨AKU _ _, AKN _ _⟩
theorem AGp (k : ByteArray) : AFE k < 4294967296 := (ABx _).1
theorem AKH {a c : Nat} (ha : a < 4294967296) (hc : c < 256) : IntKind.wrap .u32 ((Te .u32 (a : Int) (IntKind.wrap .u32 (c : Int))) * (16777619 : Int)) = ((hA a c : Nat) : Int) := by
 rw [wrap_u32, Nat.mod_eq_of_lt (by omega), PM ha (by omega), show ((a ^^^ c : Nat) : Int) * (16777619 : Int) = (((a ^^^ c) * 16777619 : Nat) : Int) from AJy _ 16777619, wrap_u32]; rfl
theorem AKX {b c : Nat} (hb : b < 4294967296) (hc : c < 256) : IntKind.wrap .u32 ((IntKind.wrap .u32 ((b : Int) + (IntKind.wrap .u32 (c : Int)))) * (2246822507 : Int)) = ((hX b c : Nat) : Int) := by
 rw [wrap_u32 c, Nat.mod_eq_of_lt (by omega), show ((b : Int) + (c : Int)) = ((b + c : Nat) : Int) by push_cast; rfl, wrap_u32, show (((b + c) % 4294967296 : Nat) : Int) * (2246822507 : Int) = (((b + c) % 4294967296 * 2246822507 : Nat) : Int) from AJy _ 2246822507, wrap_u32]; rfl
theorem MF (n k : Nat) : ((n : Nat) : Int).fdiv ((2 : Int) ^ k) = ((n / 2 ^ k : Nat) : Int) := by
 rw [Int.fdiv_eq_ediv_of_nonneg _ (by have := Int.pow_pos (n := 2) (m := k) (by decide); omega)]
 push_cast; rfl
theorem AKV {b c : Nat} (hb : b < 4294967296) (hc : c < 256) : Te .u32 (IntKind.wrap .u32 ((IntKind.wrap .u32 ((b : Int) + (IntKind.wrap .u32 (c : Int)))) * (2246822507 : Int))) ((IntKind.wrap .u32 ((IntKind.wrap .u32 ((b : Int) + (IntKind.wrap .u32 (c : Int)))) * (2246822507 : Int))).fdiv ((2 : Int) ^ (13 : Nat))) = ((hB b c : Nat) : Int) := by
 have h1 := AJE b c
 have h2 : hX b c / 2 ^ 13 ≤ hX b c := Nat.div_le_self _ _
 rw [AKX hb hc, MF, PM h1 (by omega)]; rfl
theorem NV {s : ByteArray} {i : Nat} {c : UInt8} (hc : s.data.toList[i]? = some c) : sAt s ((i : Nat) : Int) = ((c.toNat : Nat) : Int) := by
 have hi : i < s.data.toList.length := (List.getElem?_eq_some_iff.1 hc).1
 have hi2 : i < s.size := by simpa using hi
 unfold sAt
 have e : ((i : Nat) : Int).toNat = i := by omega
 rw [e]
 have h2 : s[i]? = some c := by
  rw [getElem?_pos s i hi2]
  congr 1
  have h3 := (List.getElem?_eq_some_iff.1 hc).2
  rw [← h3]
  rw [Array.getElem_toList]
  rfl
 rw [h2]; rfl
end Go.Lf

/-
 Plain law, no program in sight: numbers as bytes, seven bits each; readers of bytes; check sums; frames.
-/
set_option maxRecDepth 100000
set_option linter.unusedVariables false
set_option linter.unusedSimpArgs false
namespace Go.Lf
open Go
def AY (l : List UInt8) : ByteArray := ⟨l.toArray⟩
theorem DX (l : List UInt8) : (AY l).data.toList = l := by simp [AY]
theorem Ht (s : ByteArray) : AY s.data.toList = s := by simp [AY]
theorem AV (l : List UInt8) : (AY l).size = l.length := by simp [AY, ByteArray.size]
theorem WG {a b : List UInt8} : AY a = AY b ↔ a = b := ⟨fun h => by simpa [AY] using congrArg (fun s : ByteArray => s.data.toList) h, fun h => by rw [h]⟩
def Gq (n : Nat) : UInt8 := UInt8.ofNat n
theorem HZ {n : Nat} (h : n < 256) : (Gq n).toNat = n := by simp [Gq, UInt8.toNat_ofNat']; omega
theorem ACM (c : UInt8) : Gq c.toNat = c := by simp [Gq]
def Bv (n : Nat) : List UInt8 := if n < 128 then [Gq n] else Gq (n % 128 + 128) :: Bv (n / 128)
termination_by n
decreasing_by omega
theorem Iq {n : Nat} (h : n < 128) : Bv n = [Gq n] := by rw [Bv, if_pos h]
theorem R6 {n : Nat} (h : ¬ n < 128) : Bv n = Gq (n % 128 + 128) :: Bv (n / 128) := by rw [Bv, if_neg h]
def JO : Nat → Nat → List UInt8 → Option (Nat × List UInt8)
 | _, _, [] => none
 | i, a, c :: t =>
  if 10 ≤ i ∨ (i = 9 ∧ 1 < c.toNat) ∨ (0 < i ∧ c.toNat = 0) then none
  else if c.toNat < 128 then some (a + c.toNat * 128 ^ i, t) else JO (i + 1) (a + c.toNat % 128 * 128 ^ i) t
theorem Il {i j : Nat} (h : i ≤ j) : 128 ^ i ≤ 128 ^ j := Nat.pow_le_pow_right (by decide) h
theorem get_put (t : List UInt8) : ∀ (n i a : Nat), n * 128 ^ i < 18446744073709551616 → (i = 0 ∨ 0 < n) → JO i a (Bv n ++ t) = some (a + n * 128 ^ i, t) := by
 intro n
 induction n using Nat.strongRecOn with
 | ind n ih =>
  intro i a hb h0
  have hp : 0 < 128 ^ i := Nat.pos_of_ne_zero (Nat.pos_iff_ne_zero.1 (Nat.pow_pos (by decide)))
  by_cases hn : n < 128
  ·rw [Iq hn]
   simp only [List.cons_append, List.nil_append, JO, HZ (show n < 256 by omega)]
   rw [if_neg, if_pos hn]
   rintro (h | ⟨h, h1⟩ | ⟨h, h1⟩)
   ·have h2 := Il h
    have h3 : 1 * 128 ^ i ≤ n * 128 ^ i := Nat.mul_le_mul_right _ (by omega)
    have h4 : (128 : Nat) ^ 10 = 1180591620717411303424 := by decide
    omega
   ·subst h
    have h4 : (128 : Nat) ^ 9 = 9223372036854775808 := by decide
    rw [h4] at hb
    omega
   ·omega
  ·rw [R6 hn]
   have hd : n / 128 < n := by omega
   simp only [List.cons_append, JO, HZ (show n % 128 + 128 < 256 by omega)]
   rw [if_neg, if_neg (by omega), ih (n / 128) hd]
   ·have e1 : (n % 128 + 128) % 128 = n % 128 := by omega
    rw [e1, Nat.pow_succ, Nat.add_assoc, show n % 128 * 128 ^ i + n / 128 * (128 ^ i * 128) = (n % 128 + 128 * (n / 128)) * 128 ^ i by
     rw [Nat.add_mul, Nat.mul_comm (128 ^ i) 128, ← Nat.mul_assoc, Nat.mul_comm (n / 128) 128], Nat.mod_add_div]
   ·have h2 : n / 128 * 128 ≤ n := Nat.div_mul_le_self _ _
    have h3 : n / 128 * 128 * 128 ^ i ≤ n * 128 ^ i := Nat.mul_le_mul_right _ h2
    rw [Nat.pow_succ, Nat.mul_comm (128 ^ i) 128, ← Nat.mul_assoc]
    omega
   ·omega
   ·rintro (h | ⟨h, h1⟩ | ⟨h, h1⟩)
    ·have h2 := Il h
     have h3 : 128 * 128 ^ i ≤ n * 128 ^ i := Nat.mul_le_mul_right _ (by omega)
     have h4 : (128 : Nat) ^ 10 = 1180591620717411303424 := by decide
     omega
    ·subst h
     have h4 : (128 : Nat) ^ 9 = 9223372036854775808 := by decide
     rw [h4] at hb
     omega
    ·omega
theorem ABK : ∀ (l : List UInt8) (i a n : Nat) (t : List UInt8), JO i a l = some (n, t) → ∃ m, n = a + m * 128 ^ i ∧ l = Bv m ++ t ∧ m * 128 ^ i < 18446744073709551616 ∧ (i = 0 ∨ 0 < m)
 | [], i, a, n, t, h => by simp [JO] at h
 | c :: l, i, a, n, t, h => by
  simp only [JO] at h
  split at h
  ·cases h
  ·rename_i hc
   have hc256 : c.toNat < 256 := c.toNat_lt
   split at h
   ·rename_i h128
    obtain ⟨rfl, rfl⟩ := h
    refine ⟨c.toNat, rfl, by rw [Iq h128, ACM]; rfl, ?_, by omega⟩
    have hi : i ≤ 9 := by omega
    by_cases h9 : i = 9
    ·subst h9
     have h4 : (128 : Nat) ^ 9 = 9223372036854775808 := by decide
     rw [h4]; omega
    ·have h2 := Il (show i ≤ 8 by omega)
     have h4 : (128 : Nat) ^ 8 = 72057594037927936 := by decide
     have h3 : c.toNat * 128 ^ i ≤ 127 * 128 ^ i := Nat.mul_le_mul_right _ (by omega)
     omega
   ·rename_i h128
    obtain ⟨m, e, rfl, hb, hm⟩ := ABK l (i + 1) _ n t h
    have hm0 : 0 < m := by omega
    refine ⟨c.toNat % 128 + 128 * m, ?_, ?_, ?_, by omega⟩
    ·rw [e, Nat.pow_succ, Nat.add_mul, Nat.add_assoc, Nat.mul_comm (128 ^ i) 128, ← Nat.mul_assoc, Nat.mul_comm m 128]
    ·rw [R6 (n := c.toNat % 128 + 128 * m) (by omega), show (c.toNat % 128 + 128 * m) % 128 + 128 = c.toNat by omega, show (c.toNat % 128 + 128 * m) / 128 = m by omega, ACM]; rfl
    ·rw [Nat.pow_succ, Nat.mul_comm (128 ^ i) 128, ← Nat.mul_assoc] at hb
     have h128p : (18446744073709551616 : Nat) = 144115188075855872 * 128 := by decide
     have hi8 : i ≤ 8 := by
      refine Nat.le_of_not_lt fun hh => ?_
      have h2 := Il (show 9 ≤ i from hh)
      have h4 : (128 : Nat) ^ 9 = 9223372036854775808 := by decide
      have h3 : 1 * 128 * 128 ^ i ≤ m * 128 * 128 ^ i := Nat.mul_le_mul_right _ (Nat.mul_le_mul_right _ hm0)
      omega
     have e2 : (18446744073709551616 : Nat) = 128 ^ (i + 1) * (18446744073709551616 / 128 ^ (i + 1)) := by
      have : i = 0 ∨ i = 1 ∨ i = 2 ∨ i = 3 ∨ i = 4 ∨ i = 5 ∨ i = 6 ∨ i = 7 ∨ i = 8 := by omega
      rcases this with rfl | rfl | rfl | rfl | rfl | rfl | rfl | rfl | rfl <;> decide
     have hp : 0 < 128 ^ i := Nat.pos_of_ne_zero (Nat.pos_iff_ne_zero.1 (Nat.pow_pos (by decide)))
     have hlt : m < 18446744073709551616 / 128 ^ (i + 1) := by
      refine Nat.lt_of_mul_lt_mul_left (a := 128 ^ (i + 1)) ?_
      rw [← e2, Nat.pow_succ, Nat.mul_comm, Nat.mul_comm (128 ^ i) 128, ← Nat.mul_assoc]
      exact hb
     have h5 : 128 ^ (i + 1) * (m + 1) ≤ 128 ^ (i + 1) * (18446744073709551616 / 128 ^ (i + 1)) := Nat.mul_le_mul_left _ hlt
     rw [← e2, Nat.pow_succ] at h5
     have h6 : (c.toNat % 128 + 128 * m) * 128 ^ i < 128 * (m + 1) * 128 ^ i := Nat.mul_lt_mul_of_pos_right (by omega) hp
     have h7 : 128 * (m + 1) * 128 ^ i = 128 ^ i * 128 * (m + 1) := by rw [Nat.mul_comm, ← Nat.mul_assoc]
     omega
theorem AGr : ∀ (k n : Nat), n < 128 ^ (k + 1) → (Bv n).length ≤ k + 1 := by
 intro k
 induction k with
 | zero => intro n h; rw [Iq (by simpa using h)]; simp
 | succ k ih =>
  intro n h
  by_cases hn : n < 128
  ·rw [Iq hn]; simp
  ·rw [R6 hn]
   have := ih (n / 128) (by rw [Nat.div_lt_iff_lt_mul (by decide), ← Nat.pow_succ]; exact h)
   simp; omega
theorem Af {n : Nat} (h : n < 18446744073709551616) : (Bv n).length ≤ 10 := by
 refine AGr 9 n (Nat.lt_of_lt_of_le h ?_)
 decide
theorem AEQ {l : List UInt8} {n : Nat} {t : List UInt8} (h : JO 0 0 l = some (n, t)) : l = Bv n ++ t ∧ n < 18446744073709551616 := by
 obtain ⟨m, e, h1, h2, _⟩ := ABK l 0 0 n t h
 simp at e h2
 subst e
 exact ⟨h1, h2⟩
theorem PW {n : Nat} (h : n < 18446744073709551616) (t : List UInt8) : JO 0 0 (Bv n ++ t) = some (n, t) := by
 rw [get_put t n 0 0 (by simpa using h) (.inl rfl)]; simp
def XE (c : Nat) : Nat := if c % 2 = 1 then c / 2 ^^^ 3988292384 else c / 2
def AEs : Nat → Nat → Nat
 | 0, c => c
 | k + 1, c => XE (AEs k c)
def AH8 (c : Nat) (b : UInt8) : Nat := AEs 8 (c ^^^ b.toNat)
def AA2 (l : List UInt8) : Nat := l.foldl AH8 4294967295
def ACd (l : List UInt8) : Nat := 4294967295 - AA2 l
theorem AF7 {c : Nat} (h : c < 4294967296) : XE c < 4294967296 := by
 unfold XE
 split
 ·exact Nat.xor_lt_two_pow (n := 32) (by omega) (by decide)
 ·omega
theorem WI {c : Nat} (h : c < 4294967296) : ∀ k, AEs k c < 4294967296
 | 0 => h
 | k + 1 => AF7 (WI h k)
theorem AIn {c : Nat} (h : c < 4294967296) (b : UInt8) : AH8 c b < 4294967296 := by
 have hb : b.toNat < 256 := b.toNat_lt
 exact WI (Nat.xor_lt_two_pow (n := 32) h (by omega)) 8
theorem AFc (l : List UInt8) (b : UInt8) : AA2 (l ++ [b]) = AH8 (AA2 l) b := by simp [AA2]
theorem AEv (l : List UInt8) : AA2 l < 4294967296 := by
 unfold AA2
 suffices ∀ (l : List UInt8) (c : Nat), c < 4294967296 → l.foldl AH8 c < 4294967296 from this l _ (by decide)
 intro l
 induction l with
 | nil => exact fun c h => h
 | cons x l ih => exact fun c h => ih _ (AIn h x)
def MB (n : Nat) : List UInt8 := [Gq (n / 16777216 % 256), Gq (n / 65536 % 256), Gq (n / 256 % 256), Gq (n % 256)]
theorem Ha (n : Nat) : (MB n).length = 4 := rfl
def Bf (l : List UInt8) : List UInt8 := Bv l.length ++ MB (ACd l) ++ l
def Ei (l : List UInt8) : Nat × List UInt8 × List UInt8 :=
 match JO 0 0 l with
 | none => if l.length < 10 ∧ ∀ c ∈ l, 128 ≤ c.toNat then (20, [], []) else (21, [], [])
 | some (n, r) =>
  if 1048576 < n then (21, [], []) else if r.length < 4 + n then (20, [], [])
  else if r.take 4 = MB (ACd ((r.drop 4).take n)) then (0, (r.drop 4).take n, r.drop (4 + n)) else (21, [], [])
theorem ZY {l : List UInt8} (h : l.length ≤ 1048576) (t : List UInt8) : Ei (Bf l ++ t) = (0, l, t) := by
 unfold Ei Bf
 rw [List.append_assoc, List.append_assoc, PW (by omega)]
 dsimp only
 rw [if_neg (by omega), if_neg (by simp [Ha])]
 have e1 : (MB (ACd l) ++ (l ++ t)).take 4 = MB (ACd l) := by rw [List.take_append_of_le_length (by simp [Ha])]; exact List.take_of_length_le (by simp [Ha])
 have e2 : (MB (ACd l) ++ (l ++ t)).drop 4 = l ++ t := by rw [List.drop_append_of_le_length (by simp [Ha])]; simp [MB]
 have e3 : (l ++ t).take l.length = l := by simp
 rw [e1, e2, e3, if_pos rfl, ← List.drop_drop, e2]
 simp
structure Rd where
 rest : List UInt8
 bad : Bool
def Rd.fail : Rd := ⟨[], true⟩
def Gj (r : Rd) : Nat × Rd := if r.bad then (0, r) else match JO 0 0 r.rest with | none => (0, Rd.fail) | some (n, t) => (n, ⟨t, false⟩)
def ABX (most : Nat) (r : Rd) : Nat × Rd := if (Gj r).2.bad then (0, (Gj r).2) else if most < (Gj r).1 then (0, Rd.fail) else Gj r
def Nb (n : Nat) (r : Rd) : List UInt8 × Rd := if r.bad then ([], r) else if r.rest.length < n then ([], Rd.fail) else (r.rest.take n, ⟨r.rest.drop n, false⟩)
def Xd (r : Rd) : List UInt8 × Rd := if (Gj r).2.bad then ([], (Gj r).2) else Nb (Gj r).1 (Gj r).2
def AH2 (r : Rd) : Bool := !r.bad && r.rest.isEmpty
def CY (l : List UInt8) : List UInt8 := Bv l.length ++ l
theorem ABQ {n : Nat} (h : n < 18446744073709551616) (t : List UInt8) : Gj ⟨Bv n ++ t, false⟩ = (n, ⟨t, false⟩) := by simp [Gj, PW h]
theorem Hf {n most : Nat} (h : n < 18446744073709551616) (hm : n ≤ most) (t : List UInt8) : ABX most ⟨Bv n ++ t, false⟩ = (n, ⟨t, false⟩) := by
 simp only [ABX, ABQ h]; simp; omega
theorem Yy (l t : List UInt8) : Nb l.length ⟨l ++ t, false⟩ = (l, ⟨t, false⟩) := by simp [Nb]; omega
theorem Sj {l : List UInt8} (h : l.length < 18446744073709551616) (t : List UInt8) : Xd ⟨CY l ++ t, false⟩ = (l, ⟨t, false⟩) := by
 simp only [Xd, CY, List.append_assoc, ABQ h, Yy]; simp
theorem AGl {r : Rd} (h : r.bad = true) : Gj r = (0, r) := by simp [Gj, h]
theorem AHD (r : Rd) : (Gj r).2.rest.length ≤ r.rest.length := by
 unfold Gj
 split
 ·exact Nat.le_refl _
 ·split
  ·simp [Rd.fail]
  ·rename_i n t hg
   obtain ⟨e, _⟩ := AEQ hg
   rw [e]; simp
end Go.Lf

/-
 Bytes in memory: slices of bytes, and strings made of them; bits of numbers.
-/
set_option maxRecDepth 100000
set_option linter.unusedVariables false
set_option linter.unusedSimpArgs false
namespace Go.Lf
open Go
def JB : Enc UInt8 where
 enc x := [.int .u8 (x.toNat : Int)]
 w := 1
 len _ := rfl
 pos := by omega
 one x v hv := by simp at hv; subst hv; rfl
theorem Cells.byte {h : Heap} {a : Addr} {x : UInt8} (c : Cells h a (JB.enc x)) : hget h a = some (.int .u8 (x.toNat : Int)) := by
 have h0 := c 0 _ rfl
 rwa [add_zero] at h0
theorem ZL : ∀ (l : List UInt8) (s : ByteArray), (l.map fun c => (c.toNat : Int)).foldl (fun r n => r.push (UInt8.ofNat n.toNat)) s = ⟨s.data ++ l.toArray⟩
 | [], s => by simp
 | c :: l, s => by
  simp only [List.map_cons, List.foldl_cons]
  rw [ZL l]
  simp [ByteArray.push, Array.append_assoc]
theorem PE {A : Amb} {P : Program} {src dst e : TypeId} (hs : P.underlying src = some (.slice e)) (he : P.underlying e = some (.int .u8)) (hd : P.underlying dst = some .string) {h : Heap} {s : Sl} {l : List UInt8} {K : Value → Heap → Prop}
  (v : View JB h s l) (H : K (.string (AY l)) h) : Bb A P (convert src dst (.slice s.p s.len s.cap)) h K := by
 have hl := v.len
 refine fun n => ⟨_, h, n, ?_, H⟩
 rw [run_convert_bytes_string _ src dst e _ s.len s.cap hs he hd]
 cases hp : s.p with
 | none =>
  have hl0 : l = [] := by
   cases l with
   | nil => rfl
   | cons c l =>
    obtain ⟨a, ha, _⟩ := v.cells 0 c rfl
    rw [hp] at ha; cases ha
  subst hl0
  simp [Conv.bytesToString, AY]
  rfl
 | some a =>
  have h1 : (loadCells a s.len).run P (A.at h n) = .ok ((l.map fun c => (c.toNat : Int)).map (Value.int .u8)).toArray (A.at h n) := by
   have := run_loadCells_list (P := P) (w := A.at h n) a ((l.map fun c => (c.toNat : Int)).map (Value.int .u8)) (fun j u hj => by
    simp only [List.getElem?_map, Option.map_map, Option.map_eq_some_iff] at hj
    obtain ⟨c, hc, rfl⟩ := hj
    obtain ⟨a', ha, hcc⟩ := v.cells j c hc
    rw [hp] at ha
    cases ha
    have := Cells.byte hcc
    simp only [JB, Nat.mul_one] at this
    exact this)
   simpa [hl] using this
  rw [run_bytesToString _ a s.len s.cap _ h1, ZL]
  simp [AY, ByteArray.empty, ByteArray.emptyWithCapacity]
  rfl
theorem ext_list (s : ByteArray) (i j : Nat) : s.extract i j = AY ((s.data.toList.take j).drop i) := by
 apply ByteArray.ext
 rw [ByteArray.data_extract, AY]
 apply Array.toList_inj.1
 simp [Array.toList_extract, List.extract_eq_take_drop, List.drop_take]
theorem Yk (s : ByteArray) : s.data.toList.length = s.size := by rw [Array.length_toList]; rfl
theorem Xe (s : ByteArray) (i : Nat) : s.extract i s.size = AY (s.data.toList.drop i) := by
 rw [ext_list, List.take_of_length_le (by rw [Yk]; exact Nat.le_refl _)]
theorem AGc (s : ByteArray) (i : Nat) : s.extract 0 i = AY (s.data.toList.take i) := by
 rw [ext_list]; simp
theorem wrap_u8 (n : Nat) : IntKind.wrap .u8 (n : Int) = ((n % 256 : Nat) : Int) := by
 simp [IntKind.wrap, IntKind.bits, IntKind.signed]
theorem AJH {a b : Nat} (ha : a < 256) (hb : b < 256) : bOr .u8 (a : Int) (b : Int) = ((a ||| b : Nat) : Int) := by
 have h : a ||| b < 2 ^ 8 := Nat.or_lt_two_pow (by simpa using ha) (by simpa using hb)
 unfold bOr
 have e : (BitVec.ofInt (IntKind.bits .u8) (a : Int) ||| BitVec.ofInt (IntKind.bits .u8) (b : Int)).toNat = a ||| b := by
  show (BitVec.ofInt 8 (a : Int) ||| BitVec.ofInt 8 (b : Int)).toNat = a ||| b
  rw [BitVec.ofInt_natCast, BitVec.ofInt_natCast, BitVec.toNat_or, BitVec.toNat_ofNat, BitVec.toNat_ofNat, Nat.mod_eq_of_lt (by simpa using ha), Nat.mod_eq_of_lt (by simpa using hb)]
 rw [e, wrap_u8, Nat.mod_eq_of_lt (by simpa using h)]
theorem AGR {a b : Nat} (ha : a < 256) (hb : b < 256) : Ns .u8 (a : Int) (b : Int) = ((a &&& b : Nat) : Int) := by
 have h : a &&& b < 2 ^ 8 := Nat.lt_of_le_of_lt Nat.and_le_left (by simpa using ha)
 unfold Ns
 have e : (BitVec.ofInt (IntKind.bits .u8) (a : Int) &&& BitVec.ofInt (IntKind.bits .u8) (b : Int)).toNat = a &&& b := by
  show (BitVec.ofInt 8 (a : Int) &&& BitVec.ofInt 8 (b : Int)).toNat = a &&& b
  rw [BitVec.ofInt_natCast, BitVec.ofInt_natCast, BitVec.toNat_and, BitVec.toNat_ofNat, BitVec.toNat_ofNat, Nat.mod_eq_of_lt (by simpa using ha), Nat.mod_eq_of_lt (by simpa using hb)]
 rw [e, wrap_u8, Nat.mod_eq_of_lt (by simpa using h)]
theorem AI7 {a b : Nat} (ha : a < 4294967296) (hb : b < 4294967296) : Ns .u32 (a : Int) (b : Int) = ((a &&& b : Nat) : Int) := by
 have h : a &&& b < 2 ^ 32 := Nat.lt_of_le_of_lt Nat.and_le_left (by simpa using ha)
 unfold Ns
 have e : (BitVec.ofInt (IntKind.bits .u32) (a : Int) &&& BitVec.ofInt (IntKind.bits .u32) (b : Int)).toNat = a &&& b := by
  show (BitVec.ofInt 32 (a : Int) &&& BitVec.ofInt 32 (b : Int)).toNat = a &&& b
  rw [BitVec.ofInt_natCast, BitVec.ofInt_natCast, BitVec.toNat_and, BitVec.toNat_ofNat, BitVec.toNat_ofNat, Nat.mod_eq_of_lt (by simpa using ha), Nat.mod_eq_of_lt (by simpa using hb)]
 rw [e, wrap_u32, Nat.mod_eq_of_lt (by simpa using h)]
theorem AKJ : ∀ x, x < 256 → x ||| 128 = x % 128 + 128 := by decide +kernel
theorem AJx : ∀ x, x < 256 → x &&& 127 = x % 128 := by decide +kernel
theorem AGI (n : Nat) : bOr .u8 (IntKind.wrap .u8 (n : Int)) (128 : Int) = (((Gq (n % 128 + 128)).toNat : Nat) : Int) := by
 have h := AJH (a := n % 256) (b := 128) (Nat.mod_lt _ (by decide)) (by decide)
 rw [wrap_u8]
 rw [show (128 : Int) = ((128 : Nat) : Int) from rfl, h, AKJ _ (Nat.mod_lt _ (by decide)), HZ (by omega)]
 congr 1
 omega
theorem AJO (i : Nat) : 2 ^ (7 * i) = 128 ^ i := by rw [Nat.pow_mul]
theorem AIN {a x i : Nat} (hi : i ≤ 9) (ha : a < 128 ^ i) (hx : x < 128) : bOr .u64 (a : Int) (((x * 128 ^ i % 18446744073709551616 : Nat)) : Int) = ((a + x * 128 ^ i % 18446744073709551616 : Nat) : Int) := by
 have hp : 0 < 128 ^ i := Nat.pow_pos (by decide)
 have h9 := Il hi
 have e9 : (128 : Nat) ^ 9 = 9223372036854775808 := by decide
 rw [AJ3 (by omega) (Nat.mod_lt _ (by decide))]
 congr 1
 have e2 : ∃ q, (18446744073709551616 : Nat) = 128 ^ i * q := by
  have : i = 0 ∨ i = 1 ∨ i = 2 ∨ i = 3 ∨ i = 4 ∨ i = 5 ∨ i = 6 ∨ i = 7 ∨ i = 8 ∨ i = 9 := by omega
  refine ⟨18446744073709551616 / 128 ^ i, ?_⟩
  rcases this with rfl | rfl | rfl | rfl | rfl | rfl | rfl | rfl | rfl | rfl <;> decide
 obtain ⟨q, e2⟩ := e2
 rw [e2, Nat.mul_comm x, Nat.mul_mod_mul_left, ← AJO, Nat.or_comm, Nat.add_comm]
 exact (Nat.two_pow_add_eq_or_of_lt (by rw [AJO]; exact ha) _).symm
theorem AJ8 {x i : Nat} (hi : i ≤ 9) (hx : x < 128) : IntKind.wrap .u64 (((x : Nat) : Int) * ((2 : Int) ^ (min ((7 * i : Nat) : Int).toNat (IntKind.bits .u64)))) = ((x * 128 ^ i % 18446744073709551616 : Nat) : Int) := by
 have e : min ((7 * i : Nat) : Int).toNat (IntKind.bits .u64) = 7 * i := by
  have : IntKind.bits .u64 = 64 := rfl
  omega
 rw [e, show ((2 : Int) ^ (7 * i)) = ((2 ^ (7 * i) : Nat) : Int) by simp, AJy, wrap_u64, AJO]
theorem Mod.more {h h1 h2 : Heap} {S : Nat → Prop} (x : Ext h h1) (m : Mod S h1 h2) (hS : ∀ b, S b → h.size ≤ b) : Ext h h2 :=
 Mod.then x (m.weak fun c _ hc => .inr (hS c hc))
end Go.Lf

/-
 Plain law: a box of files (chapter 3).
-/
set_option maxRecDepth 100000
namespace Go.Lf
open Go
abbrev bs0 : ByteArray := ⟨#[]⟩
theorem sz0 : ByteArray.size ⟨#[]⟩ = 0 := rfl
structure Fi where
 name : ByteArray
 firm : ByteArray
 soft : ByteArray
deriving DecidableEq
def DK (l : List Fi) : Prop := l.Pairwise fun a b => sLt a.name b.name = true
def BH (k : ByteArray) (l : List Fi) : Option Fi := l.find? fun f => decide (f.name = k)
def LJ (k : ByteArray) (g : Fi → Fi) (l : List Fi) : List Fi := l.map fun f => if f.name = k then g f else f
def LK (k : ByteArray) (l : List Fi) : List Fi := l.filter fun f => !decide (f.name = k)
def XO (x : Fi) : List Fi → List Fi
 | [] => [x]
 | q :: l => if sLt q.name x.name then q :: XO x l else x :: q :: l
def wtF (l : List Fi) : Nat := (l.map fun f => f.firm.size + f.soft.size + 1).sum
theorem DC (k : ByteArray) (x : Fi) (l : List Fi) : BH k (x :: l) = if x.name = k then some x else BH k l := by
 unfold BH; rw [List.find?_cons]; by_cases h : x.name = k <;> simp [h]
theorem GI {k : ByteArray} {l : List Fi} {x : Fi} (h : BH k l = some x) : x.name = k ∧ x ∈ l := by
 unfold BH at h
 exact ⟨by simpa using List.find?_some h, List.mem_of_find?_eq_some h⟩
theorem KG {k : ByteArray} {l : List Fi} (h : BH k l = none) : ∀ x ∈ l, x.name ≠ k := by
 unfold BH at h; rw [List.find?_eq_none] at h; simpa using h
theorem OD {k : ByteArray} {l : List Fi} (h : ∀ x ∈ l, x.name ≠ k) : BH k l = none := by
 unfold BH; rw [List.find?_eq_none]; simpa using h
theorem DK.find {l : List Fi} (s : DK l) {x : Fi} (hx : x ∈ l) : BH x.name l = some x := by
 induction l with
 | nil => cases hx
 | cons y l ih =>
  rw [DC]
  have s' := List.pairwise_cons.1 s
  rcases List.mem_cons.1 hx with rfl | hx
  ·simp
  ·rw [if_neg (Jg (s'.1 x hx))]; exact ih s'.2 hx
theorem Jy (x : Fi) : ∀ l, (XO x l).Perm (x :: l)
 | [] => List.Perm.refl _
 | q :: l => by
  unfold XO
  split
  ·exact ((Jy x l).cons q).trans (List.Perm.swap x q l)
  ·exact List.Perm.refl _
theorem Oi {x : Fi} : ∀ {l : List Fi}, DK l → (∀ y ∈ l, y.name ≠ x.name) → DK (XO x l)
 | [], _, _ => List.pairwise_singleton _ _
 | q :: l, s, hn => by
  have s' := List.pairwise_cons.1 s
  unfold XO
  split
  ·rename_i h
   refine List.pairwise_cons.2 ⟨fun y hy => ?_, Oi s'.2 fun y hy => hn y (List.mem_cons_of_mem _ hy)⟩
   rcases List.mem_cons.1 ((Jy x l).subset hy) with rfl | hy
   ·exact h
   ·exact s'.1 y hy
  ·rename_i h
   have hlt : sLt x.name q.name = true := by
    cases h2 : sLt x.name q.name
    ·exact absurd (Jj (by simpa using h) h2) (hn q List.mem_cons_self)
    ·rfl
   refine List.pairwise_cons.2 ⟨fun y hy => ?_, s⟩
   rcases List.mem_cons.1 hy with rfl | hy
   ·exact hlt
   ·exact CG hlt (s'.1 y hy)
theorem ADF {k : ByteArray} {g : Fi → Fi} (hg : ∀ f, (g f).name = f.name) (l : List Fi) : (LJ k g l).map (·.name) = l.map (·.name) := by
 unfold LJ
 rw [List.map_map]
 refine List.map_congr_left fun f _ => ?_
 simp only [Function.comp]
 split <;> simp [hg]
theorem N8 {l : List Fi} : DK l ↔ VD (l.map (·.name)) := by unfold DK VD; rw [List.pairwise_map]
theorem UH {k : ByteArray} {g : Fi → Fi} (hg : ∀ f, (g f).name = f.name) {l : List Fi} (s : DK l) : DK (LJ k g l) := by
 rw [N8, ADF hg]; exact N8.1 s
theorem ACv {k : ByteArray} {l : List Fi} (s : DK l) : DK (LK k l) := s.sublist List.filter_sublist
theorem Tj {k c : ByteArray} {g : Fi → Fi} (hg : ∀ f, (g f).name = f.name) : ∀ l : List Fi, BH c (LJ k g l) = (BH c l).map fun f => if f.name = k then g f else f
 | [] => rfl
 | x :: l => by
  show BH c ((if x.name = k then g x else x) :: LJ k g l) = _
  rw [DC, DC, Tj hg l]
  have : (if x.name = k then g x else x).name = x.name := by split <;> simp [hg]
  rw [this]
  by_cases h : x.name = c <;> simp [h]
theorem TF {k c : ByteArray} : ∀ l : List Fi, BH c (LK k l) = if c = k then none else BH c l
 | [] => by simp [LK, BH]
 | x :: l => by
  have ih := TF (k := k) (c := c) l
  unfold LK at ih ⊢
  rw [List.filter_cons, DC]
  by_cases h1 : x.name = k
  ·simp only [h1, decide_true, Bool.not_true, Bool.false_eq_true, if_false]
   rw [ih]
   by_cases h2 : c = k
   ·simp [h2]
   ·simp [h2, Ne.symm h2]
  ·simp only [h1, decide_false, Bool.not_false, if_true]
   rw [DC, ih]
   by_cases h2 : c = k
   ·subst h2; simp [h1]
   ·simp [h2]
theorem ZP {x : Fi} {c : ByteArray} : ∀ {l : List Fi}, (∀ y ∈ l, y.name ≠ x.name) → BH c (XO x l) = if x.name = c then some x else BH c l
 | [], _ => by show BH c [x] = _; rw [DC]
 | q :: l, hn => by
  unfold XO
  split
  ·rw [DC, ZP fun y hy => hn y (List.mem_cons_of_mem _ hy), DC]
   by_cases h1 : q.name = c
   ·simp [h1]
    intro h2
    exact absurd (h1.trans h2.symm) (hn q List.mem_cons_self)
   ·simp [h1]
  ·rw [DC]
theorem FB (x : Fi) (l : List Fi) : wtF (x :: l) = x.firm.size + x.soft.size + 1 + wtF l := by simp [wtF]
theorem AHh {l m : List Fi} (h : l.Perm m) : wtF l = wtF m := (h.map _).sum_nat
theorem AE7 (x : Fi) (l : List Fi) : wtF (XO x l) = x.firm.size + x.soft.size + 1 + wtF l := by rw [AHh (Jy x l), FB]
theorem Mw : ∀ l : List Fi, l.length ≤ wtF l
 | [] => by simp [wtF]
 | x :: l => by rw [FB, List.length_cons]; have := Mw l; omega
theorem Rk {x : Fi} : ∀ {l : List Fi}, x ∈ l → x.firm.size + x.soft.size ≤ wtF l
 | [], h => by cases h
 | y :: l, h => by
  rw [FB]
  rcases List.mem_cons.1 h with rfl | h
  ·omega
  ·have := Rk h; omega
theorem Zi {k : ByteArray} : ∀ l : List Fi, wtF (LK k l) ≤ wtF l
 | [] => by simp [LK, wtF]
 | x :: l => by
  have := Zi (k := k) l
  unfold LK at this ⊢
  rw [List.filter_cons]
  split
  ·rw [FB, FB]; omega
  ·rw [FB]; omega
theorem Rv {k : ByteArray} {g : Fi → Fi} {d : Nat} (hg : ∀ f, (g f).firm.size + (g f).soft.size ≤ f.firm.size + f.soft.size + d) : ∀ {l : List Fi}, DK l → wtF (LJ k g l) ≤ wtF l + d
 | [], _ => by simp [LJ, wtF]
 | x :: l, s => by
  have s' := List.pairwise_cons.1 s
  show wtF ((if x.name = k then g x else x) :: LJ k g l) ≤ _
  rw [FB, FB]
  split
  ·rename_i h
   have : LJ k g l = l := by
    unfold LJ
    rw [List.map_congr_left (g := id) fun y hy => ?_, List.map_id]
    have := Jg (s'.1 y hy)
    rw [if_neg (fun e => this (h.trans e.symm))]; rfl
   rw [this]
   have := hg x
   omega
  ·have := Rv hg (k := k) s'.2
   omega
structure Bx where
 files : List Fi
 fuel : Int
 down : Bool
def AEA : Bx := ⟨[], -1, false⟩
def Hw (n : ByteArray) : Bool := decide (n = bs0) || decide (n.size > 32)
def Ej (m : Bx) : Bx := if m.fuel > 0 then { m with fuel := m.fuel - 1 } else m
def IM (m : Bx) : Bx := { m with down := true }
def OM (name : ByteArray) (l : List Fi) : List Fi := if (BH name l).isSome then l else XO ⟨name, bs0, bs0⟩ l
def Ml (data : ByteArray) (f : Fi) : Fi := { f with soft := f.soft ++ data }
def NZ (f : Fi) : Fi := ⟨f.name, f.firm ++ f.soft, bs0⟩
def CP (m : Bx) (name data : ByteArray) : Int × Bx :=
 if m.down then (30, m) else if Hw name then (1, m) else if m.fuel = 0 then (30, IM m) else (0, { Ej m with files := LJ name (Ml data) (OM name m.files) })
def EI (m : Bx) (name : ByteArray) : Int × Bx :=
 if m.down then (30, m) else if (BH name m.files).isNone then (31, m) else if m.fuel = 0 then (30, IM m) else (0, { Ej m with files := LJ name NZ m.files })
def EZ (m : Bx) (name : ByteArray) : Int × Bx :=
 if m.down then (30, m) else if (BH name m.files).isNone then (31, m) else if m.fuel = 0 then (30, IM m) else (0, { Ej m with files := LK name m.files })
def Ol (m : Bx) (name : ByteArray) : ByteArray × Int :=
 if m.down then (bs0, 30) else match BH name m.files with | none => (bs0, 31) | some f => (f.firm ++ f.soft, 0)
def AJB (m : Bx) (n : Int) : Bx := { m with fuel := if (-1 : Int) > n then -1 else n }
def ME (keep : List Int) (k : Nat) (f : Fi) : ByteArray :=
 if f.soft = bs0 then f.firm else match keep[k]? with | some n => f.firm ++ f.soft.extract 0 (min n.toNat f.soft.size) | none => f.firm
def Kq (k : Nat) (f : Fi) : Nat := if f.soft = bs0 then k else k + 1
def Xl (keep : List Int) (k : Nat) (f : Fi) : List Fi := if ME keep k f = bs0 then [] else [⟨f.name, ME keep k f, bs0⟩]
def CW (keep : List Int) : Nat → List Fi → List Fi
 | _, [] => []
 | k, f :: l => Xl keep k f ++ CW keep (Kq k f) l
def Mc (m : Bx) (keep : List Int) : Bx := ⟨CW keep 0 m.files, -1, false⟩
structure Cu (m : Bx) : Prop where
 sorted : DK m.files
 names : ∀ f ∈ m.files, f.name.size ≤ 32
 lo : -1 ≤ m.fuel
 hi : m.fuel ≤ 9223372036854775807
 wt : wtF m.files ≤ 8796093022208
theorem ACk (a b : ByteArray) : (a ++ b).size = a.size + b.size := ByteArray.size_append
theorem M0 (a : ByteArray) : a ++ bs0 = a := by simp [ByteArray.ext_iff, bs0]
theorem NG (a : ByteArray) : bs0 ++ a = a := by simp [ByteArray.ext_iff, bs0]
theorem AFi : Cu AEA := ⟨List.Pairwise.nil, by simp [AEA], by simp [AEA], by simp [AEA], by simp [AEA, wtF]⟩
theorem Cu.tick {m : Bx} (g : Cu m) (l : List Fi) (h1 : DK l) (h2 : ∀ f ∈ l, f.name.size ≤ 32) (h3 : wtF l ≤ 8796093022208) : Cu { Ej m with files := l } := by
 have := g.lo; have := g.hi
 refine ⟨h1, h2, ?_, ?_, h3⟩
 ·show -1 ≤ (Ej m).fuel
  unfold Ej; split <;> (try simp only []) <;> omega
 ·show (Ej m).fuel ≤ _
  unfold Ej; split <;> (try simp only []) <;> omega
theorem Cu.off {m : Bx} (g : Cu m) : Cu (IM m) := ⟨g.sorted, g.names, g.lo, g.hi, g.wt⟩
theorem Vm {name : ByteArray} {l : List Fi} (s : DK l) : DK (OM name l) ∧ wtF (OM name l) ≤ wtF l + 1 ∧ (∀ f ∈ OM name l, f ∈ l ∨ f.name = name) := by
 unfold OM
 split
 ·exact ⟨s, by omega, fun f hf => .inl hf⟩
 ·rename_i h
  have hn := KG (by simpa using h)
  refine ⟨Oi s hn, by rw [AE7]; simp [sz0]; omega, fun f hf => ?_⟩
  rcases List.mem_cons.1 ((Jy _ l).subset hf) with rfl | hf
  ·exact .inr rfl
  ·exact .inl hf
theorem ACg {k : ByteArray} {g : Fi → Fi} (hg : ∀ f, (g f).name = f.name) {l : List Fi} {f : Fi} (hf : f ∈ LJ k g l) : ∃ f' ∈ l, f'.name = f.name := by
 unfold LJ at hf
 obtain ⟨f', h1, rfl⟩ := List.mem_map.1 hf
 exact ⟨f', h1, by split <;> simp [hg]⟩
theorem Cu.append {m : Bx} (g : Cu m) {name data : ByteArray} (hw : wtF m.files + data.size + 1 ≤ 8796093022208) : Cu (CP m name data).2 := by
 unfold CP
 split
 ·exact g
 ·split
  ·exact g
  ·rename_i hb
   split
   ·exact g.off
   ·obtain ⟨h1, h2, h3⟩ := Vm (name := name) g.sorted
    refine g.tick _ (UH (k := name) (g := Ml data) (fun _ => rfl) h1) (fun f hf => ?_) ?_
    ·obtain ⟨f', h4, h5⟩ := ACg (g := Ml data) (fun _ => rfl) hf
     rw [← h5]
     rcases h3 f' h4 with h | h
     ·exact g.names f' h
     ·rw [h]; simp [Hw] at hb; omega
    ·have := Rv (k := name) (g := Ml data) (d := data.size) (fun f => by simp [Ml]; omega) h1
     omega
theorem Cu.sync {m : Bx} (g : Cu m) {name : ByteArray} : Cu (EI m name).2 := by
 unfold EI
 split
 ·exact g
 ·split
  ·exact g
  ·split
   ·exact g.off
   ·refine g.tick _ (UH (k := name) (g := NZ) (fun _ => rfl) g.sorted) (fun f hf => ?_) ?_
    ·obtain ⟨f', h4, h5⟩ := ACg (g := NZ) (fun _ => rfl) hf
     rw [← h5]; exact g.names f' h4
    ·have := Rv (k := name) (g := NZ) (d := 0) (fun f => by simp [NZ, sz0]) g.sorted
     have := g.wt; omega
theorem Cu.delete {m : Bx} (g : Cu m) {name : ByteArray} : Cu (EZ m name).2 := by
 unfold EZ
 split
 ·exact g
 ·split
  ·exact g
  ·split
   ·exact g.off
   ·exact g.tick _ (ACv g.sorted) (fun f hf => g.names f (List.mem_filter.1 hf).1) (Nat.le_trans (Zi _) g.wt)
theorem Cu.fuel {m : Bx} (g : Cu m) {n : Int} (hn : n ≤ 9223372036854775807) : Cu (AJB m n) := by
 refine ⟨g.sorted, g.names, ?_, ?_, g.wt⟩ <;> (simp only [AJB]; split <;> omega)
theorem KI {keep : List Int} : ∀ {l : List Fi} {k : Nat} {f : Fi}, f ∈ CW keep k l → ∃ f' ∈ l, f'.name = f.name
 | [], _, _, h => by simp [CW] at h
 | x :: l, k, f, h => by
  unfold CW at h
  rcases List.mem_append.1 h with h | h
  ·unfold Xl at h
   split at h
   ·cases h
   ·simp at h; exact ⟨x, List.mem_cons_self, by rw [h]⟩
  ·obtain ⟨f', h1, h2⟩ := KI h
   exact ⟨f', List.mem_cons_of_mem _ h1, h2⟩
theorem P8 {keep : List Int} : ∀ {l : List Fi} {k : Nat}, DK l → DK (CW keep k l)
 | [], _, _ => List.Pairwise.nil
 | x :: l, k, s => by
  have s' := List.pairwise_cons.1 s
  unfold CW
  refine List.pairwise_append.2 ⟨?_, P8 s'.2, ?_⟩
  ·unfold Xl; split
   ·exact List.Pairwise.nil
   ·exact List.pairwise_singleton _ _
  ·intro a ha b hb
   have : a.name = x.name := by
    unfold Xl at ha; split at ha
    ·cases ha
    ·simp at ha; rw [ha]
   obtain ⟨f', h1, h2⟩ := KI hb
   rw [this, ← h2]; exact s'.1 f' h1
theorem AFP (keep : List Int) (k : Nat) (f : Fi) : (ME keep k f).size ≤ f.firm.size + f.soft.size := by
 unfold ME
 split
 ·omega
 ·split
  ·rw [ACk, ByteArray.size_extract]; omega
  ·omega
theorem Sa {keep : List Int} : ∀ {l : List Fi} {k : Nat}, wtF (CW keep k l) ≤ wtF l
 | [], _ => by simp [CW]
 | x :: l, k => by
  unfold CW
  have := Sa (keep := keep) (l := l) (k := Kq k x)
  have := AFP keep k x
  unfold Xl
  rw [FB]
  split
  ·simp; omega
  ·rw [List.singleton_append, FB]; simp [sz0]; omega
theorem Cu.crash {m : Bx} (g : Cu m) {keep : List Int} : Cu (Mc m keep) :=
 ⟨P8 g.sorted, fun f hf => by obtain ⟨f', h1, h2⟩ := KI hf; rw [← h2]; exact g.names f' h1, by simp [Mc], by simp [Mc], Nat.le_trans Sa g.wt⟩
theorem PI {m : Bx} (g : Cu m) (name data : ByteArray) : wtF (CP m name data).2.files ≤ wtF m.files + data.size + 1 := by
 unfold CP
 split
 ·simp; omega
 ·split
  ·simp; omega
  ·split
   ·simp [IM]; omega
   ·obtain ⟨h1, h2, _⟩ := Vm (name := name) g.sorted
    have := Rv (k := name) (g := Ml data) (d := data.size) (fun f => by simp [Ml]; omega) h1
    simp; omega
theorem RI {m : Bx} (g : Cu m) (name : ByteArray) : wtF (EI m name).2.files ≤ wtF m.files := by
 unfold EI
 split
 ·simp
 ·split
  ·simp
  ·split
   ·simp [IM]
   ·have := Rv (k := name) (g := NZ) (d := 0) (fun f => by simp [NZ, sz0]) g.sorted
    simpa using this
theorem Tc {m : Bx} (name : ByteArray) : wtF (EZ m name).2.files ≤ wtF m.files := by
 unfold EZ
 split
 ·simp
 ·split
  ·simp
  ·split
   ·simp [IM]
   ·exact Zi _
theorem AGP {m : Bx} {keep : List Int} : wtF (Mc m keep).files ≤ wtF m.files := Sa
end Go.Lf

