/-
 LIFT, part U1: strings in order; lists of strings; maps of strings, with their stamps.
-/
import Derived.Test.YtdmlhpjdmgaggaaGreatDoorLfKToU6
import Derived.MapKept
import Derived.Maps.Own
import Derived.Lib.Bytealg
import Derived.Sort.KeysCollected
import Derived.StringKeys
import Derived.Laws.BytesString
import Derived.Laws.BytesArg
set_option linter.unusedVariables false
set_option linter.unusedSimpArgs false
set_option maxRecDepth 100000
namespace Go.Lf
open Go
theorem toList_inj {a b : ByteArray} : (a.toList == b.toList) = decide (a = b) := by
 rw [ByteArray.toList_eq, ByteArray.toList_eq]
 rw [Bool.eq_iff_iff]
 simp [ByteArray.ext_iff, ← Array.toList_inj]
theorem BR {a b : ByteArray} : sEq a b = decide (a = b) := toList_inj
theorem MJ : ∀ (a : List UInt8), Op.bytesLess a a = false
 | [] => rfl
 | a :: x => by simp [Op.bytesLess, MJ x]
theorem WX : ∀ (a b : List UInt8), Op.bytesLess a b = false → Op.bytesLess b a = false → a = b
 | [], [], _, _ => rfl
 | [], _ :: _, h, _ => by simp [Op.bytesLess] at h
 | _ :: _, [], _, h => by simp [Op.bytesLess] at h
 | a :: x, b :: y, h1, h2 => by
  simp only [Op.bytesLess, Bool.or_eq_false_iff, Bool.and_eq_false_iff, decide_eq_false_iff_not, beq_eq_false_iff_ne] at h1 h2
  have hab : a = b := by
   have h3 := h1.1; have h4 := h2.1
   exact UInt8.le_antisymm (UInt8.not_lt.1 h4) (UInt8.not_lt.1 h3)
  subst hab
  rw [WX x y (h1.2.resolve_left (by simp)) (h2.2.resolve_left (by simp))]
theorem Ol : ∀ (a b c : List UInt8), Op.bytesLess a b = true → Op.bytesLess b c = true → Op.bytesLess a c = true
 | _, [], _, h, _ => by simp [Op.bytesLess] at h
 | _, _ :: _, [], _, h => by simp [Op.bytesLess] at h
 | [], _ :: _, _ :: _, _, _ => by simp [Op.bytesLess]
 | a :: x, b :: y, c :: z, h1, h2 => by
  simp only [Op.bytesLess, Bool.or_eq_true, Bool.and_eq_true, decide_eq_true_eq, beq_iff_eq] at h1 h2 ⊢
  rcases h1 with h1 | ⟨rfl, h1⟩
  ·rcases h2 with h2 | ⟨rfl, h2⟩
   ·exact .inl (UInt8.lt_trans h1 h2)
   ·exact .inl h1
  ·rcases h2 with h2 | ⟨rfl, h2⟩
   ·exact .inl h2
   ·exact .inr ⟨rfl, Ol x y z h1 h2⟩
theorem BX (a : ByteArray) : sLt a a = false := MJ _
theorem CP {a b c : ByteArray} (h1 : sLt a b = true) (h2 : sLt b c = true) : sLt a c = true := Ol _ _ _ h1 h2
theorem J7 {a b : ByteArray} (h1 : sLt a b = false) (h2 : sLt b a = false) : a = b := by
 have := WX _ _ h1 h2
 have h3 : sEq a b = true := by simp [sEq, this]
 rw [BR] at h3
 simpa using h3
theorem Mi {a b : ByteArray} (h1 : sLt a b = true) : sLt b a = false := by
 cases h : sLt b a
 ·rfl
 ·have := CP h1 h; rw [BX] at this; cases this
theorem Js {a b : ByteArray} (h : sLt a b = true) : a ≠ b := by rintro rfl; rw [BX] at h; cases h
theorem ABr {a b c : ByteArray} (h1 : sLt a b = true) (h2 : sLt c b = false) : sLt a c = true := by
 cases h : sLt b c
 ·rw [J7 h2 h]; exact h1
 ·exact CP h1 h
theorem Tk {a b c : ByteArray} (h1 : sLt b a = false) (h2 : sLt c b = false) : sLt c a = false := by
 cases h : sLt c a
 ·rfl
 ·have := ABr h h1; rw [this] at h2; cases h2
theorem AIK : ∀ (a b : List UInt8), Op.bytesLess a b = decide (a < b)
 | [], [] => by simp [Op.bytesLess]
 | [], _ :: _ => by simp [Op.bytesLess]
 | _ :: _, [] => by simp [Op.bytesLess]
 | a :: x, b :: y => by
  simp only [Op.bytesLess, AIK x y, List.cons_lt_cons_iff]
  by_cases h1 : a < b <;> by_cases h2 : a = b <;> simp [h1, h2]
theorem R8 (a b : ByteArray) : sLt a b = decide (a.data.toList < b.data.toList) := by simp [sLt, ByteArray.toList_eq, AIK]
def EC : Enc ByteArray where
 enc x := [.string x]
 w := 1
 len _ := rfl
 pos := by omega
 one x v hv := by simp at hv; subst hv; rfl
def EZ : Enc Int where
 enc x := [.int .i64 x]
 w := 1
 len _ := rfl
 pos := by omega
 one x v hv := by simp at hv; subst hv; rfl
theorem Cells.str {h : Heap} {a : Addr} {x : ByteArray} (c : Cells h a (EC.enc x)) : hget h a = some (.string x) := by
 have h0 := c 0 _ rfl
 rwa [add_zero] at h0
theorem Cells.int {h : Heap} {a : Addr} {x : Int} (c : Cells h a (EZ.enc x)) : hget h a = some (.int .i64 x) := by
 have h0 := c 0 _ rfl
 rwa [add_zero] at h0
theorem Own.lt {α : Type} {E : Enc α} {T : TypeId} {h : Heap} {s : Sl} {l : List α} (o : Own E T h s l) {b : Nat} (hb : s.blk = some b) : b < h.size := by
 rcases o.row with ⟨rfl, _⟩ | ⟨g, cur, hp, hg, _⟩
 ·simp [Sl.blk] at hb
 ·simp [Sl.blk, hp] at hb; subst hb; exact Am hg
def UK (k : ByteArray) (v : Value) : List (ByteArray × Value) → List (ByteArray × Value)
 | [] => [(k, v)]
 | p :: m => if p.1 = k then (k, v) :: m else p :: UK k v m
def OL (k : ByteArray) (m : List (ByteArray × Value)) : Option Value := (m.find? fun p => decide (p.1 = k)).map (·.2)
def AAt (k : ByteArray) (m : List (ByteArray × Value)) : List (ByteArray × Value) := m.filter fun p => !decide (p.1 = k)
theorem KV (k : ByteArray) (p : ByteArray × Value) (m : List (ByteArray × Value)) : OL k (p :: m) = if p.1 = k then some p.2 else OL k m := by
 unfold OL; rw [List.find?_cons]; by_cases h : p.1 = k <;> simp [h]
structure MapOf (es : Array MapEntry) (clock : Nat) (m : List (ByteArray × Value)) : Prop where
 same : es.toList.map (fun e => (e.key, e.val)) = m.map fun p => (Value.string p.1, p.2)
 stamped : MapKept.Stamped es clock
 size : es.size ≤ maxLen
 keys : ∀ p ∈ m, p.1.size ≤ maxLen
def PY (h : Heap) (b : Nat) (m : List (ByteArray × Value)) : Prop := ∃ es clock, h[b]? = some (.map es clock) ∧ MapOf es clock m
theorem PY.mod {h h' : Heap} {b : Nat} {m : List (ByteArray × Value)} {S : Nat → Prop} (M : PY h b m) (x : Mod S h h') (hS : ¬ S b) : PY h' b m := by
 obtain ⟨es, clock, hb, e⟩ := M
 exact ⟨es, clock, x.blk hb hS, e⟩
theorem PY.lt {h : Heap} {b : Nat} {m : List (ByteArray × Value)} (M : PY h b m) : b < h.size := by
 obtain ⟨es, clock, hb, e⟩ := M; exact Am hb
theorem PY.empty {h : Heap} {b c : Nat} (hb : h[b]? = some (.map #[] c)) : PY h b [] := ⟨#[], c, hb, rfl, MapKept.stamped_empty c, by simp, by simp⟩
theorem MapOf.len {es : Array MapEntry} {clock : Nat} {m : List (ByteArray × Value)} (M : MapOf es clock m) : es.size = m.length := by
 rw [← Array.length_toList]; have := congrArg List.length M.same; simpa using this
theorem MapOf.keysOf {es : Array MapEntry} {clock : Nat} {m : List (ByteArray × Value)} (M : MapOf es clock m) : es.toList.map (·.key) = m.map fun p => Value.string p.1 := by
 have := congrArg (List.map Prod.fst) M.same
 simpa [List.map_map, Function.comp_def] using this
theorem MapOf.nodup {es : Array MapEntry} {clock : Nat} {m : List (ByteArray × Value)} (M : MapOf es clock m) : (m.map (·.1)).Nodup := by
 have h1 := M.stamped.2.2
 rw [M.keysOf] at h1
 have h2 : (m.map fun p => Value.string p.1) = (m.map (·.1)).map Value.string := by simp
 rw [h2] at h1
 exact (List.pairwise_map.1 h1).imp fun hne e => hne (congrArg _ e)
theorem Pv (k : ByteArray) (v : Value) : ∀ (es : List MapEntry) (m : List (ByteArray × Value)) (i : Nat), (es.map fun e => (e.key, e.val)) = (m.map fun p => (Value.string p.1, p.2)) →
  (Instr.findNow .string (.string k) es i = some none ∧ OL k m = none ∧ UK k v m = m ++ [(k, v)] ∧ AAt k m = m ∧ ∀ e ∈ es, e.key ≠ .string k) ∨
  ∃ j u, Instr.findNow .string (.string k) es i = some (some (i + j, u)) ∧ OL k m = some u ∧ (∃ e, es[j]? = some e ∧ e.key = .string k) ∧ ((es.modify j fun e => { e with key := .string k, val := v }).map fun e => (e.key, e.val)) = (UK k v m).map (fun p => (Value.string p.1, p.2)) ∧
   ((m.map (·.1)).Nodup → ((es.eraseIdx j).map fun e => (e.key, e.val)) = (AAt k m).map fun p => (Value.string p.1, p.2))
 | [], [], i, _ => .inl ⟨rfl, rfl, rfl, rfl, by simp⟩
 | [], _ :: _, _, h => by simp at h
 | _ :: _, [], _, h => by simp at h
 | e :: es, p :: m, i, h => by
  simp only [List.map_cons, List.cons.injEq, Prod.mk.injEq] at h
  obtain ⟨⟨h1, h2⟩, h3⟩ := h
  have hs : Instr.sameNow .string (.string k) e.key = some (decide (k = p.1)) := by
   rw [h1]
   show some (k == p.1) = _
   congr 1
   rw [Bool.eq_iff_iff, MapKept.bytes_beq]; simp
  by_cases hk : p.1 = k
  ·refine .inr ⟨0, e.val, ?_, ?_, ⟨e, rfl, by rw [h1, hk]⟩, ?_, ?_⟩
   ·unfold Instr.findNow; rw [hs, decide_eq_true hk.symm]; rfl
   ·rw [KV, if_pos hk, h2]
   ·unfold UK; rw [if_pos hk]; simp [h3]
   ·intro hnd
    have hnd := List.nodup_cons.1 hnd
    simp only [List.eraseIdx_zero, List.tail_cons]
    rw [h3]
    congr 1
    unfold AAt
    rw [List.filter_cons]
    simp only [hk, decide_true, Bool.not_true, Bool.false_eq_true, if_false]
    refine (List.filter_eq_self.2 fun q hq => ?_).symm
    simp only [Bool.not_eq_true', decide_eq_false_iff_not]
    rintro rfl
    exact hnd.1 (by show p.1 ∈ _; rw [hk]; exact List.mem_map_of_mem (f := Prod.fst) hq)
  ·rcases Pv k v es m (i + 1) h3 with ⟨a1, a2, a3, a6, a7⟩ | ⟨j, u, a1, a2, ⟨e', a3, a4⟩, a5, a6⟩
   ·refine .inl ⟨?_, ?_, ?_, ?_, ?_⟩
    ·unfold Instr.findNow; rw [hs, decide_eq_false (fun e => hk e.symm)]; exact a1
    ·rw [KV, if_neg hk]; exact a2
    ·unfold UK; rw [if_neg hk, a3]; rfl
    ·unfold AAt at a6 ⊢; rw [List.filter_cons]; simp [hk]; simpa using a6
    ·intro x hx
     rcases List.mem_cons.1 hx with rfl | hx
     ·rw [h1]; intro e; injection e with e; exact hk e
     ·exact a7 x hx
   ·refine .inr ⟨j + 1, u, ?_, ?_, ⟨e', by simpa using a3, a4⟩, ?_, ?_⟩
    ·unfold Instr.findNow; rw [hs, decide_eq_false (fun e => hk e.symm)]; rw [show i + (j + 1) = i + 1 + j by omega]; exact a1
    ·rw [KV, if_neg hk]; exact a2
    ·unfold UK; rw [if_neg hk]; simp [h1, h2, a5]
    ·intro hnd
     have hnd := List.nodup_cons.1 hnd
     have := a6 hnd.2
     unfold AAt at this ⊢
     rw [List.filter_cons]
     simp [hk, h1, h2]
     simpa using this
section
variable {P : Program}
theorem Gp {kt : TypeId} (hk : P.underlying kt = some .string) (e : Bool) (n : Nat) (k : ByteArray) (w : World) : (Instr.checkKey e (n + 1) kt (.string k)).run P w = .ok () w := by
 simp [Instr.checkKey, Bg hk]
theorem KH {A : Amb} {t kt et : TypeId} {z : Value} (ht : P.underlying t = some (.map kt et)) (hk : P.underlying kt = some .string) (hz : (zeroValue et).calc P = some z) {h : Heap} {b : Nat} {m : List (ByteArray × Value)} {k : ByteArray} {K : Value → Heap → Prop}
  (M : PY h b m) (H : K ((OL k m).getD z) h) : Ba A P (Instr.lookup t (.map (some b)) (.string k) false) h K := by
 intro n
 refine ⟨_, h, n, ?_, H⟩
 obtain ⟨es, clock, hb, e⟩ := M
 have hg := MapKept.run_getObj_map (P := P) (w := A.at h n) (r := b) hb
 rcases Pv k z es.toList m 0 e.same with ⟨a1, a2, _⟩ | ⟨j, u, a1, a2, _, _⟩
 ·simp [Instr.lookup, Bg ht, hg, Gp hk, Instr.findKey, Bg hk, a1, a2, Result.andThen, Nc hz]
 ·simp [Instr.lookup, Bg ht, hg, Gp hk, Instr.findKey, Bg hk, a1, a2, Result.andThen]
theorem ZU {k : ByteArray} {v : Value} : ∀ {m : List (ByteArray × Value)} {p : ByteArray × Value}, p ∈ UK k v m → p.1 = k ∨ p ∈ m
 | [], p, h => by simp [UK] at h; exact .inl (by rw [h])
 | q :: m, p, h => by
  unfold UK at h
  split at h
  ·rcases List.mem_cons.1 h with rfl | h
   ·exact .inl rfl
   ·exact .inr (List.mem_cons_of_mem _ h)
  ·rcases List.mem_cons.1 h with rfl | h
   ·exact .inr List.mem_cons_self
   ·exact (ZU h).imp id (List.mem_cons_of_mem _)
theorem AAO {A : Amb} {t kt et : TypeId} (ht : P.underlying t = some (.map kt et)) (hk : P.underlying kt = some .string) {h : Heap} {b : Nat} {m : List (ByteArray × Value)} {k : ByteArray} {v : Value} {K : Heap → Prop}
  (M : PY h b m) (hks : k.size ≤ maxLen) (hml : m.length < maxLen) (H : ∀ h', PY h' b (UK k v m) → Mod (fun c => c = b) h h' → h'.size = h.size → K h') : AEy A P (Instr.mapUpdate t (.map (some b)) (.string k) v) h K := by
 intro n
 obtain ⟨es, clock, hb, e⟩ := M
 have hlt := Am hb
 have hg := MapKept.run_getObj_map (P := P) (w := A.at h n) (r := b) hb
 have hst : ∀ o, (setObj b o).run P (A.at h n) = .ok () (A.at (h.setIfInBounds b o) n) := fun o => MapKept.run_setObj_map (P := P) (w := A.at h n) o hb
 have hkeys : ∀ p ∈ UK k v m, p.1.size ≤ maxLen := fun p hp => (ZU hp).elim (fun h => by rw [h]; exact hks) (e.keys p)
 have hlen := e.len
 rcases Pv k v es.toList m 0 e.same with ⟨a1, a2, a3, _, a7⟩ | ⟨j, u, a1, a2, ⟨e', a3, a4⟩, a5, _⟩
 ·refine ⟨h.setIfInBounds b (.map (es.push { key := .string k, val := v, born := clock }) (clock + 1)), n, ?_, H _ ⟨_, _, Di hlt, ?_, MapKept.stamped_push e.stamped a7, by simp; omega, hkeys⟩ (Mod.setObj rfl) (by simp)⟩
  ·simp [Instr.mapUpdate, Bg ht, hg, Gp hk, Instr.findKey, Bg hk, a1, Result.andThen, hst]
  ·rw [a3]; simp [e.same]
 ·have hj : es[j]? = some e' := by simpa using a3
  refine ⟨h.setIfInBounds b (.map (es.modify j fun e => { e with key := .string k, val := v }) clock), n, ?_, H _ ⟨_, _, Di hlt, ?_, MapKept.stamped_modify e.stamped _ _ (fun _ _ => rfl) (fun x _ hx => ?_), by simpa using e.size, hkeys⟩ (Mod.setObj rfl) (by simp)⟩
  ·have hstay : ∀ w, (Instr.keyThatStays (.string k) (.string k)).run P w = .ok (.string k) w := fun w => by
    have hkk : (k == k) = true := (MapKept.bytes_beq k k).2 rfl
    simp [Instr.keyThatStays, Instr.sameBits, hkk]
   simp [Instr.mapUpdate, Bg ht, hg, Gp hk, Instr.findKey, Bg hk, a1, hj, a4, hstay, Result.andThen, hst]
  ·rw [Array.toList_modify]; exact a5
  ·rw [hj] at hx; cases hx; exact a4.symm
theorem AGc {A : Amb} {t kt et ty : TypeId} (ht : P.underlying t = some (.map kt et)) (hk : P.underlying kt = some .string) {h : Heap} {b : Nat} {m : List (ByteArray × Value)} {k : ByteArray} {K : Value → Heap → Prop}
  (M : PY h b m) (H : ∀ h', PY h' b (AAt k m) → Mod (fun c => c = b) h h' → h'.size = h.size → K (.tuple #[]) h') : Ba A P (Builtin.delete_ #[t, kt] ty #[.map (some b), .string k]) h K := by
 intro n
 obtain ⟨es, clock, hb, e⟩ := M
 have hlt := Am hb
 have hg := MapKept.run_getObj_map (P := P) (w := A.at h n) (r := b) hb
 have hst : ∀ o, (setObj b o).run P (A.at h n) = .ok () (A.at (h.setIfInBounds b o) n) := fun o => MapKept.run_setObj_map (P := P) (w := A.at h n) o hb
 have hkeys : ∀ p ∈ AAt k m, p.1.size ≤ maxLen := fun p hp => e.keys p (List.mem_filter.1 hp).1
 rcases Pv k (.bool true) es.toList m 0 e.same with ⟨a1, a2, _, a6, _⟩ | ⟨j, u, a1, a2, ⟨e', a3, a4⟩, _, a6⟩
 ·refine ⟨_, h.setIfInBounds b (.map es clock), n, ?_, H _ ⟨_, _, Di hlt, by rw [a6]; exact e.same, e.stamped, e.size, hkeys⟩ (Mod.setObj rfl) (by simp)⟩
  simp [Builtin.delete_, Bg ht, hg, Gp hk, Instr.findKey, Bg hk, a1, Result.andThen, hst]
 ·have hj : es[j]? = some e' := by simpa using a3
  refine ⟨_, h.setIfInBounds b (.map (es.eraseIdxIfInBounds j) clock), n, ?_, H _ ⟨_, _, Di hlt, ?_, MapKept.stamped_erase e.stamped _, ?_, hkeys⟩ (Mod.setObj rfl) (by simp)⟩
  ·simp [Builtin.delete_, Bg ht, hg, Gp hk, Instr.findKey, Bg hk, a1, Result.andThen, hst]
  ·have hjl := (Array.getElem?_eq_some_iff.1 hj).1
   rw [Array.eraseIdxIfInBounds, dif_pos hjl, Array.toList_eraseIdx]
   exact a6 e.nodup
  ·have : (es.eraseIdxIfInBounds j).size ≤ es.size := by
    unfold Array.eraseIdxIfInBounds; split <;> simp
   have := e.size; omega
end
def ALG (_ : Value) : Option (DataW Unit × List MemPlace) := some (.nil, [])
theorem ACj {H : Type} (x : Lit × DataW H) : ∀ l : List (Lit × DataW H), (DataW.insert x l).Perm (x :: l)
 | [] => by simp [DataW.insert]
 | y :: r => by
  unfold DataW.insert
  split
  ·exact List.Perm.refl _
  ·exact ((ACj x r).cons y).trans (List.Perm.swap x y r)
theorem sorted_perm {H : Type} : ∀ l : List (Lit × DataW H), (l.foldr DataW.insert []).Perm l
 | [] => List.Perm.refl _
 | x :: r => (ACj x _).trans ((sorted_perm r).cons x)
theorem AEa {P : Program} {kt : TypeId} (hk : P.underlying kt = some .string) {w : World} {b : Nat} {m : List (ByteArray × Value)} (M : PY w.heap b m) :
  ∃ D : DataW Unit, w.ownsMap P kt ALG b m.length D ∧ (strKeys D).Perm (m.map fun p => p.1.data.toList) ∧ Maps.size D = m.length := by
 obtain ⟨es, clock, hb, e⟩ := M
 have hrd : ∀ x ∈ es.toList, ∃ s : ByteArray, x.key = .string s ∧ WideElems.rd P kt ALG x = some (.string s.data.toList, .nil) := by
  intro x hx
  have : x.key ∈ m.map fun p => Value.string p.1 := by rw [← e.keysOf]; exact List.mem_map_of_mem hx
  obtain ⟨p, hp, hpx⟩ := List.mem_map.1 this
  refine ⟨p.1, hpx.symm, ?_⟩
  simp [WideElems.rd, ← hpx, Go.WideMaps.keyOf_string_mk hk (e.keys p hp), ALG]
 refine ⟨_, ⟨es, clock, hb, ⟨e.size, e.stamped, fun x hx => ?_⟩, by rw [e.len]; exact Nat.le_refl _, rfl⟩, ?_, ?_⟩
 ·obtain ⟨s, _, h2⟩ := hrd x hx; exact ⟨_, h2⟩
 ·show ((es.toList.map (WideElems.rg P kt ALG)).foldr DataW.insert [] |>.map fun p => strOf p.1).Perm _
  refine ((sorted_perm _).map _).trans ?_
  have h1 : (es.toList.map (WideElems.rg P kt ALG)).map (fun p => strOf p.1) = (es.toList.map (·.key)).map fun v => match v with | .string s => s.data.toList | _ => [] := by
   rw [List.map_map, List.map_map]
   refine List.map_congr_left fun x hx => ?_
   obtain ⟨s, h1, h2⟩ := hrd x hx
   simp [Function.comp, WideElems.rg, h2, h1, strOf]
  rw [h1, e.keysOf, List.map_map]
  exact List.Perm.of_eq (List.map_congr_left fun x _ => rfl)
 ·show ((es.toList.map (WideElems.rg P kt ALG)).foldr DataW.insert []).length = _
  rw [(sorted_perm _).length_eq]; simp [e.len]
def Vk (l : List ByteArray) : Prop := l.Pairwise fun a b => sLt a b = true
theorem AEm {ss : List (List UInt8)} {l : List ByteArray} (hs : Vk l) (hp : ss.Perm (l.map fun x => x.data.toList)) : (ss.mergeSort fun x y => decide (x ≤ y)) = l.map fun x => x.data.toList := by
 have e := mergeSort_of_perm hp
 have h2 : (l.map fun x => x.data.toList).mergeSort leB = l.map fun x => x.data.toList := by
  refine List.mergeSort_of_pairwise ?_
  refine List.pairwise_map.2 (hs.imp fun {a b} hab => ?_)
  rw [R8] at hab
  simp only [decide_eq_true_eq] at hab ⊢
  exact List.le_of_lt hab
 exact e.trans h2
theorem AGI (l : List ByteArray) : (l.map fun x => x.data.toList).map Proofs.encStr = l.flatMap EC.enc := by
 induction l with
 | nil => rfl
 | cons x r ih => rw [List.map_cons, List.map_cons, ih, List.flatMap_cons]; rfl
end Go.Lf

/-
 Plain law: a key's hash; places on a ring; the least of hosts (chapters 6 and 11).
-/
set_option maxRecDepth 100000
set_option linter.unusedVariables false
set_option linter.unusedSimpArgs false
namespace Go.Lf
open Go
theorem wrap_u32 (n : Nat) : IntKind.wrap .u32 (n : Int) = ((n % 4294967296 : Nat) : Int) := by
 simp [IntKind.wrap, IntKind.bits, IntKind.signed]
theorem wrap_u64 (n : Nat) : IntKind.wrap .u64 (n : Int) = ((n % 18446744073709551616 : Nat) : Int) := by
 simp [IntKind.wrap, IntKind.bits, IntKind.signed]
theorem QA {a b : Nat} (ha : a < 4294967296) (hb : b < 4294967296) : UZ .u32 (a : Int) (b : Int) = ((a ^^^ b : Nat) : Int) := by
 have h : a ^^^ b < 2 ^ 32 := Nat.xor_lt_two_pow (by simpa using ha) (by simpa using hb)
 unfold UZ
 have e : (BitVec.ofInt (IntKind.bits .u32) (a : Int) ^^^ BitVec.ofInt (IntKind.bits .u32) (b : Int)).toNat = a ^^^ b := by
  show (BitVec.ofInt 32 (a : Int) ^^^ BitVec.ofInt 32 (b : Int)).toNat = a ^^^ b
  rw [BitVec.ofInt_natCast, BitVec.ofInt_natCast, BitVec.toNat_xor, BitVec.toNat_ofNat, BitVec.toNat_ofNat, Nat.mod_eq_of_lt (by simpa using ha), Nat.mod_eq_of_lt (by simpa using hb)]
 rw [e, wrap_u32, Nat.mod_eq_of_lt (by simpa using h)]
theorem ALD {a b : Nat} (ha : a < 4294967296) (hb : b < 4294967296) : bOr .u32 (a : Int) (b : Int) = ((a ||| b : Nat) : Int) := by
 have h : a ||| b < 2 ^ 32 := Nat.or_lt_two_pow (by simpa using ha) (by simpa using hb)
 unfold bOr
 have e : (BitVec.ofInt (IntKind.bits .u32) (a : Int) ||| BitVec.ofInt (IntKind.bits .u32) (b : Int)).toNat = a ||| b := by
  show (BitVec.ofInt 32 (a : Int) ||| BitVec.ofInt 32 (b : Int)).toNat = a ||| b
  rw [BitVec.ofInt_natCast, BitVec.ofInt_natCast, BitVec.toNat_or, BitVec.toNat_ofNat, BitVec.toNat_ofNat, Nat.mod_eq_of_lt (by simpa using ha), Nat.mod_eq_of_lt (by simpa using hb)]
 rw [e, wrap_u32, Nat.mod_eq_of_lt (by simpa using h)]
theorem AK0 {a b : Nat} (ha : a < 18446744073709551616) (hb : b < 18446744073709551616) : bOr .u64 (a : Int) (b : Int) = ((a ||| b : Nat) : Int) := by
 have h : a ||| b < 2 ^ 64 := Nat.or_lt_two_pow (by simpa using ha) (by simpa using hb)
 unfold bOr
 have e : (BitVec.ofInt (IntKind.bits .u64) (a : Int) ||| BitVec.ofInt (IntKind.bits .u64) (b : Int)).toNat = a ||| b := by
  show (BitVec.ofInt 64 (a : Int) ||| BitVec.ofInt 64 (b : Int)).toNat = a ||| b
  rw [BitVec.ofInt_natCast, BitVec.ofInt_natCast, BitVec.toNat_or, BitVec.toNat_ofNat, BitVec.toNat_ofNat, Nat.mod_eq_of_lt (by simpa using ha), Nat.mod_eq_of_lt (by simpa using hb)]
 rw [e, wrap_u64, Nat.mod_eq_of_lt (by simpa using h)]
theorem AKk (n k : Nat) : ((n : Nat) : Int) * ((k : Nat) : Int) = ((n * k : Nat) : Int) := (Int.natCast_mul n k).symm
def hA (a c : Nat) : Nat := ((a ^^^ c) * 16777619) % 4294967296
def hX (b c : Nat) : Nat := ((b + c) % 4294967296 * 2246822507) % 4294967296
def hB (b c : Nat) : Nat := hX b c ^^^ (hX b c / 8192)
def PS (l : List UInt8) : Nat × Nat := l.foldl (fun s c => (hA s.1 c.toNat, hB s.2 c.toNat)) (2166136261, 2538058380)
def AFK (k : ByteArray) : Nat := (PS k.data.toList).1
def AFR (k : ByteArray) : Nat := (PS k.data.toList).2 ||| 1
theorem ALm (a c : Nat) : hA a c < 4294967296 := Nat.mod_lt _ (by decide)
theorem AKN (b c : Nat) : hX b c < 4294967296 := Nat.mod_lt _ (by decide)
theorem ALY (b c : Nat) : hB b c < 4294967296 := by
 have h1 := AKN b c
 have : hB b c < 2 ^ 32 := Nat.xor_lt_two_pow (by simpa using h1) (by have : hX b c / 8192 ≤ hX b c := Nat.div_le_self _ _; omega)
 simpa using this
theorem WQ (l : List UInt8) (c : UInt8) : PS (l ++ [c]) = (hA (PS l).1 c.toNat, hB (PS l).2 c.toNat) := by simp [PS]
theorem ADL (l : List UInt8) : (PS l).1 < 4294967296 ∧ (PS l).2 < 4294967296 := by
 rw [← List.reverse_reverse l]
 cases l.reverse with
 | nil => decide
 | cons c r => rw [List.reverse_cons, WQ]; exact ⟨ALm _ _, ALY _ _⟩
theorem AIU (k : ByteArray) : AFK k < 4294967296 := (ADL _).1
theorem ALa {a c : Nat} (ha : a < 4294967296) (hc : c < 256) : IntKind.wrap .u32 ((UZ .u32 (a : Int) (IntKind.wrap .u32 (c : Int))) * (16777619 : Int)) = ((hA a c : Nat) : Int) := by
 rw [wrap_u32, Nat.mod_eq_of_lt (by omega), QA ha (by omega), show ((a ^^^ c : Nat) : Int) * (16777619 : Int) = (((a ^^^ c) * 16777619 : Nat) : Int) from AKk _ 16777619, wrap_u32]; rfl
theorem ALg {b c : Nat} (hb : b < 4294967296) (hc : c < 256) : IntKind.wrap .u32 ((IntKind.wrap .u32 ((b : Int) + (IntKind.wrap .u32 (c : Int)))) * (2246822507 : Int)) = ((hX b c : Nat) : Int) := by
 rw [wrap_u32 c, Nat.mod_eq_of_lt (by omega), show ((b : Int) + (c : Int)) = ((b + c : Nat) : Int) by push_cast; rfl, wrap_u32, show (((b + c) % 4294967296 : Nat) : Int) * (2246822507 : Int) = (((b + c) % 4294967296 * 2246822507 : Nat) : Int) from AKk _ 2246822507, wrap_u32]; rfl
theorem Mh (n k : Nat) : ((n : Nat) : Int).fdiv ((2 : Int) ^ k) = ((n / 2 ^ k : Nat) : Int) := by
 rw [Int.fdiv_eq_ediv_of_nonneg _ (by have := Int.pow_pos (n := 2) (m := k) (by decide); omega)]
 push_cast; rfl
theorem ALT {b c : Nat} (hb : b < 4294967296) (hc : c < 256) : UZ .u32 (IntKind.wrap .u32 ((IntKind.wrap .u32 ((b : Int) + (IntKind.wrap .u32 (c : Int)))) * (2246822507 : Int))) ((IntKind.wrap .u32 ((IntKind.wrap .u32 ((b : Int) + (IntKind.wrap .u32 (c : Int)))) * (2246822507 : Int))).fdiv ((2 : Int) ^ (13 : Nat))) = ((hB b c : Nat) : Int) := by
 have h1 := AKN b c
 have h2 : hX b c / 2 ^ 13 ≤ hX b c := Nat.div_le_self _ _
 rw [ALg hb hc, Mh, QA h1 (by omega)]; rfl
theorem NZ {s : ByteArray} {i : Nat} {c : UInt8} (hc : s.data.toList[i]? = some c) : sAt s ((i : Nat) : Int) = ((c.toNat : Nat) : Int) := by
 have hi : i < s.data.toList.length := (List.getElem?_eq_some_iff.1 hc).1
 have hi2 : i < s.size := by simpa using hi
 unfold sAt
 have e : ((i : Nat) : Int).toNat = i := by omega
 rw [e]
 have h2 : s[i]? = some c := by
  rw [getElem?_pos s i hi2]
  congr 1
  have h3 := (List.getElem?_eq_some_iff.1 hc).2
  rw [← h3]
  rw [Array.getElem_toList]
  rfl
 rw [h2]; rfl
end Go.Lf

/-
 Plain law, no program in sight: numbers as bytes, seven bits each; readers of bytes; check sums; frames.
-/
set_option maxRecDepth 100000
set_option linter.unusedVariables false
set_option linter.unusedSimpArgs false
namespace Go.Lf
open Go
def Aa (l : List UInt8) : ByteArray := ⟨l.toArray⟩
theorem Dk (l : List UInt8) : (Aa l).data.toList = l := by simp [Aa]
theorem IL (s : ByteArray) : Aa s.data.toList = s := by simp [Aa]
theorem AV (l : List UInt8) : (Aa l).size = l.length := by simp [Aa, ByteArray.size]
theorem Xg {a b : List UInt8} : Aa a = Aa b ↔ a = b := ⟨fun h => by simpa [Aa] using congrArg (fun s : ByteArray => s.data.toList) h, fun h => by rw [h]⟩
def G6 (n : Nat) : UInt8 := UInt8.ofNat n
theorem Hw {n : Nat} (h : n < 256) : (G6 n).toNat = n := by simp [G6, UInt8.toNat_ofNat']; omega
theorem ADV (c : UInt8) : G6 c.toNat = c := by simp [G6]
def CG (n : Nat) : List UInt8 := if n < 128 then [G6 n] else G6 (n % 128 + 128) :: CG (n / 128)
termination_by n
decreasing_by omega
theorem Io {n : Nat} (h : n < 128) : CG n = [G6 n] := by rw [CG, if_pos h]
theorem Rv {n : Nat} (h : ¬ n < 128) : CG n = G6 (n % 128 + 128) :: CG (n / 128) := by rw [CG, if_neg h]
def Jl : Nat → Nat → List UInt8 → Option (Nat × List UInt8)
 | _, _, [] => none
 | i, a, c :: t =>
  if 10 ≤ i ∨ (i = 9 ∧ 1 < c.toNat) ∨ (0 < i ∧ c.toNat = 0) then none
  else if c.toNat < 128 then some (a + c.toNat * 128 ^ i, t) else Jl (i + 1) (a + c.toNat % 128 * 128 ^ i) t
theorem Iq {i j : Nat} (h : i ≤ j) : 128 ^ i ≤ 128 ^ j := Nat.pow_le_pow_right (by decide) h
theorem get_put (t : List UInt8) : ∀ (n i a : Nat), n * 128 ^ i < 18446744073709551616 → (i = 0 ∨ 0 < n) → Jl i a (CG n ++ t) = some (a + n * 128 ^ i, t) := by
 intro n
 induction n using Nat.strongRecOn with
 | ind n ih =>
  intro i a hb h0
  have hp : 0 < 128 ^ i := Nat.pos_of_ne_zero (Nat.pos_iff_ne_zero.1 (Nat.pow_pos (by decide)))
  by_cases hn : n < 128
  ·rw [Io hn]
   simp only [List.cons_append, List.nil_append, Jl, Hw (show n < 256 by omega)]
   rw [if_neg, if_pos hn]
   rintro (h | ⟨h, h1⟩ | ⟨h, h1⟩)
   ·have h2 := Iq h
    have h3 : 1 * 128 ^ i ≤ n * 128 ^ i := Nat.mul_le_mul_right _ (by omega)
    have h4 : (128 : Nat) ^ 10 = 1180591620717411303424 := by decide
    omega
   ·subst h
    have h4 : (128 : Nat) ^ 9 = 9223372036854775808 := by decide
    rw [h4] at hb
    omega
   ·omega
  ·rw [Rv hn]
   have hd : n / 128 < n := by omega
   simp only [List.cons_append, Jl, Hw (show n % 128 + 128 < 256 by omega)]
   rw [if_neg, if_neg (by omega), ih (n / 128) hd]
   ·have e1 : (n % 128 + 128) % 128 = n % 128 := by omega
    rw [e1, Nat.pow_succ, Nat.add_assoc, show n % 128 * 128 ^ i + n / 128 * (128 ^ i * 128) = (n % 128 + 128 * (n / 128)) * 128 ^ i by
     rw [Nat.add_mul, Nat.mul_comm (128 ^ i) 128, ← Nat.mul_assoc, Nat.mul_comm (n / 128) 128], Nat.mod_add_div]
   ·have h2 : n / 128 * 128 ≤ n := Nat.div_mul_le_self _ _
    have h3 : n / 128 * 128 * 128 ^ i ≤ n * 128 ^ i := Nat.mul_le_mul_right _ h2
    rw [Nat.pow_succ, Nat.mul_comm (128 ^ i) 128, ← Nat.mul_assoc]
    omega
   ·omega
   ·rintro (h | ⟨h, h1⟩ | ⟨h, h1⟩)
    ·have h2 := Iq h
     have h3 : 128 * 128 ^ i ≤ n * 128 ^ i := Nat.mul_le_mul_right _ (by omega)
     have h4 : (128 : Nat) ^ 10 = 1180591620717411303424 := by decide
     omega
    ·subst h
     have h4 : (128 : Nat) ^ 9 = 9223372036854775808 := by decide
     rw [h4] at hb
     omega
    ·omega
theorem ADs : ∀ (l : List UInt8) (i a n : Nat) (t : List UInt8), Jl i a l = some (n, t) → ∃ m, n = a + m * 128 ^ i ∧ l = CG m ++ t ∧ m * 128 ^ i < 18446744073709551616 ∧ (i = 0 ∨ 0 < m)
 | [], i, a, n, t, h => by simp [Jl] at h
 | c :: l, i, a, n, t, h => by
  simp only [Jl] at h
  split at h
  ·cases h
  ·rename_i hc
   have hc256 : c.toNat < 256 := c.toNat_lt
   split at h
   ·rename_i h128
    obtain ⟨rfl, rfl⟩ := h
    refine ⟨c.toNat, rfl, by rw [Io h128, ADV]; rfl, ?_, by omega⟩
    have hi : i ≤ 9 := by omega
    by_cases h9 : i = 9
    ·subst h9
     have h4 : (128 : Nat) ^ 9 = 9223372036854775808 := by decide
     rw [h4]; omega
    ·have h2 := Iq (show i ≤ 8 by omega)
     have h4 : (128 : Nat) ^ 8 = 72057594037927936 := by decide
     have h3 : c.toNat * 128 ^ i ≤ 127 * 128 ^ i := Nat.mul_le_mul_right _ (by omega)
     omega
   ·rename_i h128
    obtain ⟨m, e, rfl, hb, hm⟩ := ADs l (i + 1) _ n t h
    have hm0 : 0 < m := by omega
    refine ⟨c.toNat % 128 + 128 * m, ?_, ?_, ?_, by omega⟩
    ·rw [e, Nat.pow_succ, Nat.add_mul, Nat.add_assoc, Nat.mul_comm (128 ^ i) 128, ← Nat.mul_assoc, Nat.mul_comm m 128]
    ·rw [Rv (n := c.toNat % 128 + 128 * m) (by omega), show (c.toNat % 128 + 128 * m) % 128 + 128 = c.toNat by omega, show (c.toNat % 128 + 128 * m) / 128 = m by omega, ADV]; rfl
    ·rw [Nat.pow_succ, Nat.mul_comm (128 ^ i) 128, ← Nat.mul_assoc] at hb
     have h128p : (18446744073709551616 : Nat) = 144115188075855872 * 128 := by decide
     have hi8 : i ≤ 8 := by
      refine Nat.le_of_not_lt fun hh => ?_
      have h2 := Iq (show 9 ≤ i from hh)
      have h4 : (128 : Nat) ^ 9 = 9223372036854775808 := by decide
      have h3 : 1 * 128 * 128 ^ i ≤ m * 128 * 128 ^ i := Nat.mul_le_mul_right _ (Nat.mul_le_mul_right _ hm0)
      omega
     have e2 : (18446744073709551616 : Nat) = 128 ^ (i + 1) * (18446744073709551616 / 128 ^ (i + 1)) := by
      have : i = 0 ∨ i = 1 ∨ i = 2 ∨ i = 3 ∨ i = 4 ∨ i = 5 ∨ i = 6 ∨ i = 7 ∨ i = 8 := by omega
      rcases this with rfl | rfl | rfl | rfl | rfl | rfl | rfl | rfl | rfl <;> decide
     have hp : 0 < 128 ^ i := Nat.pos_of_ne_zero (Nat.pos_iff_ne_zero.1 (Nat.pow_pos (by decide)))
     have hlt : m < 18446744073709551616 / 128 ^ (i + 1) := by
      refine Nat.lt_of_mul_lt_mul_left (a := 128 ^ (i + 1)) ?_
      rw [← e2, Nat.pow_succ, Nat.mul_comm, Nat.mul_comm (128 ^ i) 128, ← Nat.mul_assoc]
      exact hb
     have h5 : 128 ^ (i + 1) * (m + 1) ≤ 128 ^ (i + 1) * (18446744073709551616 / 128 ^ (i + 1)) := Nat.mul_le_mul_left _ hlt
     rw [← e2, Nat.pow_succ] at h5
     have h6 : (c.toNat % 128 + 128 * m) * 128 ^ i < 128 * (m + 1) * 128 ^ i := Nat.mul_lt_mul_of_pos_right (by omega) hp
     have h7 : 128 * (m + 1) * 128 ^ i = 128 ^ i * 128 * (m + 1) := by rw [Nat.mul_comm, ← Nat.mul_assoc]
     omega
theorem AIe : ∀ (k n : Nat), n < 128 ^ (k + 1) → (CG n).length ≤ k + 1 := by
 intro k
 induction k with
 | zero => intro n h; rw [Io (by simpa using h)]; simp
 | succ k ih =>
  intro n h
  by_cases hn : n < 128
  ·rw [Io hn]; simp
  ·rw [Rv hn]
   have := ih (n / 128) (by rw [Nat.div_lt_iff_lt_mul (by decide), ← Nat.pow_succ]; exact h)
   simp; omega
theorem Ai {n : Nat} (h : n < 18446744073709551616) : (CG n).length ≤ 10 := by
 refine AIe 9 n (Nat.lt_of_lt_of_le h ?_)
 decide
theorem AF4 {l : List UInt8} {n : Nat} {t : List UInt8} (h : Jl 0 0 l = some (n, t)) : l = CG n ++ t ∧ n < 18446744073709551616 := by
 obtain ⟨m, e, h1, h2, _⟩ := ADs l 0 0 n t h
 simp at e h2
 subst e
 exact ⟨h1, h2⟩
theorem Po {n : Nat} (h : n < 18446744073709551616) (t : List UInt8) : Jl 0 0 (CG n ++ t) = some (n, t) := by
 rw [get_put t n 0 0 (by simpa using h) (.inl rfl)]; simp
def YE (c : Nat) : Nat := if c % 2 = 1 then c / 2 ^^^ 3988292384 else c / 2
def AFT : Nat → Nat → Nat
 | 0, c => c
 | k + 1, c => YE (AFT k c)
def AKB (c : Nat) (b : UInt8) : Nat := AFT 8 (c ^^^ b.toNat)
def AAi (l : List UInt8) : Nat := l.foldl AKB 4294967295
def ADM (l : List UInt8) : Nat := 4294967295 - AAi l
theorem AGp {c : Nat} (h : c < 4294967296) : YE c < 4294967296 := by
 unfold YE
 split
 ·exact Nat.xor_lt_two_pow (n := 32) (by omega) (by decide)
 ·omega
theorem XU {c : Nat} (h : c < 4294967296) : ∀ k, AFT k c < 4294967296
 | 0 => h
 | k + 1 => AGp (XU h k)
theorem AJt {c : Nat} (h : c < 4294967296) (b : UInt8) : AKB c b < 4294967296 := by
 have hb : b.toNat < 256 := b.toNat_lt
 exact XU (Nat.xor_lt_two_pow (n := 32) h (by omega)) 8
theorem AGY (l : List UInt8) (b : UInt8) : AAi (l ++ [b]) = AKB (AAi l) b := by simp [AAi]
theorem AFW (l : List UInt8) : AAi l < 4294967296 := by
 unfold AAi
 suffices ∀ (l : List UInt8) (c : Nat), c < 4294967296 → l.foldl AKB c < 4294967296 from this l _ (by decide)
 intro l
 induction l with
 | nil => exact fun c h => h
 | cons x l ih => exact fun c h => ih _ (AJt h x)
def MU (n : Nat) : List UInt8 := [G6 (n / 16777216 % 256), G6 (n / 65536 % 256), G6 (n / 256 % 256), G6 (n % 256)]
theorem Hy (n : Nat) : (MU n).length = 4 := rfl
def Bt (l : List UInt8) : List UInt8 := CG l.length ++ MU (ADM l) ++ l
def Er (l : List UInt8) : Nat × List UInt8 × List UInt8 :=
 match Jl 0 0 l with
 | none => if l.length < 10 ∧ ∀ c ∈ l, 128 ≤ c.toNat then (20, [], []) else (21, [], [])
 | some (n, r) =>
  if 1048576 < n then (21, [], []) else if r.length < 4 + n then (20, [], [])
  else if r.take 4 = MU (ADM ((r.drop 4).take n)) then (0, (r.drop 4).take n, r.drop (4 + n)) else (21, [], [])
theorem Zb {l : List UInt8} (h : l.length ≤ 1048576) (t : List UInt8) : Er (Bt l ++ t) = (0, l, t) := by
 unfold Er Bt
 rw [List.append_assoc, List.append_assoc, Po (by omega)]
 dsimp only
 rw [if_neg (by omega), if_neg (by simp [Hy])]
 have e1 : (MU (ADM l) ++ (l ++ t)).take 4 = MU (ADM l) := by rw [List.take_append_of_le_length (by simp [Hy])]; exact List.take_of_length_le (by simp [Hy])
 have e2 : (MU (ADM l) ++ (l ++ t)).drop 4 = l ++ t := by rw [List.drop_append_of_le_length (by simp [Hy])]; simp [MU]
 have e3 : (l ++ t).take l.length = l := by simp
 rw [e1, e2, e3, if_pos rfl, ← List.drop_drop, e2]
 simp
structure Rd where
 rest : List UInt8
 bad : Bool
def Rd.fail : Rd := ⟨[], true⟩
def Gx (r : Rd) : Nat × Rd := if r.bad then (0, r) else match Jl 0 0 r.rest with | none => (0, Rd.fail) | some (n, t) => (n, ⟨t, false⟩)
def ACI (most : Nat) (r : Rd) : Nat × Rd := if (Gx r).2.bad then (0, (Gx r).2) else if most < (Gx r).1 then (0, Rd.fail) else Gx r
def OC (n : Nat) (r : Rd) : List UInt8 × Rd := if r.bad then ([], r) else if r.rest.length < n then ([], Rd.fail) else (r.rest.take n, ⟨r.rest.drop n, false⟩)
def WT (r : Rd) : List UInt8 × Rd := if (Gx r).2.bad then ([], (Gx r).2) else OC (Gx r).1 (Gx r).2
def AJP (r : Rd) : Bool := !r.bad && r.rest.isEmpty
def Cm (l : List UInt8) : List UInt8 := CG l.length ++ l
theorem ACp {n : Nat} (h : n < 18446744073709551616) (t : List UInt8) : Gx ⟨CG n ++ t, false⟩ = (n, ⟨t, false⟩) := by simp [Gx, Po h]
theorem IX {n most : Nat} (h : n < 18446744073709551616) (hm : n ≤ most) (t : List UInt8) : ACI most ⟨CG n ++ t, false⟩ = (n, ⟨t, false⟩) := by
 simp only [ACI, ACp h]; simp; omega
theorem AAW (l t : List UInt8) : OC l.length ⟨l ++ t, false⟩ = (l, ⟨t, false⟩) := by simp [OC]; omega
theorem Tm {l : List UInt8} (h : l.length < 18446744073709551616) (t : List UInt8) : WT ⟨Cm l ++ t, false⟩ = (l, ⟨t, false⟩) := by
 simp only [WT, Cm, List.append_assoc, ACp h, AAW]; simp
theorem AH8 {r : Rd} (h : r.bad = true) : Gx r = (0, r) := by simp [Gx, h]
theorem AIW (r : Rd) : (Gx r).2.rest.length ≤ r.rest.length := by
 unfold Gx
 split
 ·exact Nat.le_refl _
 ·split
  ·simp [Rd.fail]
  ·rename_i n t hg
   obtain ⟨e, _⟩ := AF4 hg
   rw [e]; simp
end Go.Lf

/-
 Bytes in memory: slices of bytes, and strings made of them; bits of numbers.
-/
set_option maxRecDepth 100000
set_option linter.unusedVariables false
set_option linter.unusedSimpArgs false
namespace Go.Lf
open Go
def IC : Enc UInt8 where
 enc x := [.int .u8 (x.toNat : Int)]
 w := 1
 len _ := rfl
 pos := by omega
 one x v hv := by simp at hv; subst hv; rfl
theorem Cells.byte {h : Heap} {a : Addr} {x : UInt8} (c : Cells h a (IC.enc x)) : hget h a = some (.int .u8 (x.toNat : Int)) := by
 have h0 := c 0 _ rfl
 rwa [add_zero] at h0
theorem AAV : ∀ (l : List UInt8) (s : ByteArray), (l.map fun c => (c.toNat : Int)).foldl (fun r n => r.push (UInt8.ofNat n.toNat)) s = ⟨s.data ++ l.toArray⟩
 | [], s => by simp
 | c :: l, s => by
  simp only [List.map_cons, List.foldl_cons]
  rw [AAV l]
  simp [ByteArray.push, Array.append_assoc]
theorem MX {A : Amb} {P : Program} {src dst e : TypeId} (hs : P.underlying src = some (.slice e)) (he : P.underlying e = some (.int .u8)) (hd : P.underlying dst = some .string) {h : Heap} {s : Sl} {l : List UInt8} {K : Value → Heap → Prop}
  (v : View IC h s l) (H : K (.string (Aa l)) h) : Ba A P (convert src dst (.slice s.p s.len s.cap)) h K := by
 have hl := v.len
 refine fun n => ⟨_, h, n, ?_, H⟩
 rw [run_convert_bytes_string _ src dst e _ s.len s.cap hs he hd]
 cases hp : s.p with
 | none =>
  have hl0 : l = [] := by
   cases l with
   | nil => rfl
   | cons c l =>
    obtain ⟨a, ha, _⟩ := v.cells 0 c rfl
    rw [hp] at ha; cases ha
  subst hl0
  simp [Conv.bytesToString, Aa]
  rfl
 | some a =>
  have h1 : (loadCells a s.len).run P (A.at h n) = .ok ((l.map fun c => (c.toNat : Int)).map (Value.int .u8)).toArray (A.at h n) := by
   have := run_loadCells_list (P := P) (w := A.at h n) a ((l.map fun c => (c.toNat : Int)).map (Value.int .u8)) (fun j u hj => by
    simp only [List.getElem?_map, Option.map_map, Option.map_eq_some_iff] at hj
    obtain ⟨c, hc, rfl⟩ := hj
    obtain ⟨a', ha, hcc⟩ := v.cells j c hc
    rw [hp] at ha
    cases ha
    have := Cells.byte hcc
    simp only [IC, Nat.mul_one] at this
    exact this)
   simpa [hl] using this
  rw [run_bytesToString _ a s.len s.cap _ h1, AAV]
  simp [Aa, ByteArray.empty, ByteArray.emptyWithCapacity]
  rfl
theorem ext_list (s : ByteArray) (i j : Nat) : s.extract i j = Aa ((s.data.toList.take j).drop i) := by
 apply ByteArray.ext
 rw [ByteArray.data_extract, Aa]
 apply Array.toList_inj.1
 simp [Array.toList_extract, List.extract_eq_take_drop, List.drop_take]
theorem Za (s : ByteArray) : s.data.toList.length = s.size := by rw [Array.length_toList]; rfl
theorem V5 (s : ByteArray) (i : Nat) : s.extract i s.size = Aa (s.data.toList.drop i) := by
 rw [ext_list, List.take_of_length_le (by rw [Za]; exact Nat.le_refl _)]
theorem AI3 (s : ByteArray) (i : Nat) : s.extract 0 i = Aa (s.data.toList.take i) := by
 rw [ext_list]; simp
theorem wrap_u8 (n : Nat) : IntKind.wrap .u8 (n : Int) = ((n % 256 : Nat) : Int) := by
 simp [IntKind.wrap, IntKind.bits, IntKind.signed]
theorem AKL {a b : Nat} (ha : a < 256) (hb : b < 256) : bOr .u8 (a : Int) (b : Int) = ((a ||| b : Nat) : Int) := by
 have h : a ||| b < 2 ^ 8 := Nat.or_lt_two_pow (by simpa using ha) (by simpa using hb)
 unfold bOr
 have e : (BitVec.ofInt (IntKind.bits .u8) (a : Int) ||| BitVec.ofInt (IntKind.bits .u8) (b : Int)).toNat = a ||| b := by
  show (BitVec.ofInt 8 (a : Int) ||| BitVec.ofInt 8 (b : Int)).toNat = a ||| b
  rw [BitVec.ofInt_natCast, BitVec.ofInt_natCast, BitVec.toNat_or, BitVec.toNat_ofNat, BitVec.toNat_ofNat, Nat.mod_eq_of_lt (by simpa using ha), Nat.mod_eq_of_lt (by simpa using hb)]
 rw [e, wrap_u8, Nat.mod_eq_of_lt (by simpa using h)]
theorem AHM {a b : Nat} (ha : a < 256) (hb : b < 256) : OU .u8 (a : Int) (b : Int) = ((a &&& b : Nat) : Int) := by
 have h : a &&& b < 2 ^ 8 := Nat.lt_of_le_of_lt Nat.and_le_left (by simpa using ha)
 unfold OU
 have e : (BitVec.ofInt (IntKind.bits .u8) (a : Int) &&& BitVec.ofInt (IntKind.bits .u8) (b : Int)).toNat = a &&& b := by
  show (BitVec.ofInt 8 (a : Int) &&& BitVec.ofInt 8 (b : Int)).toNat = a &&& b
  rw [BitVec.ofInt_natCast, BitVec.ofInt_natCast, BitVec.toNat_and, BitVec.toNat_ofNat, BitVec.toNat_ofNat, Nat.mod_eq_of_lt (by simpa using ha), Nat.mod_eq_of_lt (by simpa using hb)]
 rw [e, wrap_u8, Nat.mod_eq_of_lt (by simpa using h)]
theorem AJq {a b : Nat} (ha : a < 4294967296) (hb : b < 4294967296) : OU .u32 (a : Int) (b : Int) = ((a &&& b : Nat) : Int) := by
 have h : a &&& b < 2 ^ 32 := Nat.lt_of_le_of_lt Nat.and_le_left (by simpa using ha)
 unfold OU
 have e : (BitVec.ofInt (IntKind.bits .u32) (a : Int) &&& BitVec.ofInt (IntKind.bits .u32) (b : Int)).toNat = a &&& b := by
  show (BitVec.ofInt 32 (a : Int) &&& BitVec.ofInt 32 (b : Int)).toNat = a &&& b
  rw [BitVec.ofInt_natCast, BitVec.ofInt_natCast, BitVec.toNat_and, BitVec.toNat_ofNat, BitVec.toNat_ofNat, Nat.mod_eq_of_lt (by simpa using ha), Nat.mod_eq_of_lt (by simpa using hb)]
 rw [e, wrap_u32, Nat.mod_eq_of_lt (by simpa using h)]
theorem ALU : ∀ x, x < 256 → x ||| 128 = x % 128 + 128 := by decide +kernel
theorem AKi : ∀ x, x < 256 → x &&& 127 = x % 128 := by decide +kernel
theorem AHX (n : Nat) : bOr .u8 (IntKind.wrap .u8 (n : Int)) (128 : Int) = (((G6 (n % 128 + 128)).toNat : Nat) : Int) := by
 have h := AKL (a := n % 256) (b := 128) (Nat.mod_lt _ (by decide)) (by decide)
 rw [wrap_u8]
 rw [show (128 : Int) = ((128 : Nat) : Int) from rfl, h, ALU _ (Nat.mod_lt _ (by decide)), Hw (by omega)]
 congr 1
 omega
theorem AKm (i : Nat) : 2 ^ (7 * i) = 128 ^ i := by rw [Nat.pow_mul]
theorem AJf {a x i : Nat} (hi : i ≤ 9) (ha : a < 128 ^ i) (hx : x < 128) : bOr .u64 (a : Int) (((x * 128 ^ i % 18446744073709551616 : Nat)) : Int) = ((a + x * 128 ^ i % 18446744073709551616 : Nat) : Int) := by
 have hp : 0 < 128 ^ i := Nat.pow_pos (by decide)
 have h9 := Iq hi
 have e9 : (128 : Nat) ^ 9 = 9223372036854775808 := by decide
 rw [AK0 (by omega) (Nat.mod_lt _ (by decide))]
 congr 1
 have e2 : ∃ q, (18446744073709551616 : Nat) = 128 ^ i * q := by
  have : i = 0 ∨ i = 1 ∨ i = 2 ∨ i = 3 ∨ i = 4 ∨ i = 5 ∨ i = 6 ∨ i = 7 ∨ i = 8 ∨ i = 9 := by omega
  refine ⟨18446744073709551616 / 128 ^ i, ?_⟩
  rcases this with rfl | rfl | rfl | rfl | rfl | rfl | rfl | rfl | rfl | rfl <;> decide
 obtain ⟨q, e2⟩ := e2
 rw [e2, Nat.mul_comm x, Nat.mul_mod_mul_left, ← AKm, Nat.or_comm, Nat.add_comm]
 exact (Nat.two_pow_add_eq_or_of_lt (by rw [AKm]; exact ha) _).symm
theorem AKe {x i : Nat} (hi : i ≤ 9) (hx : x < 128) : IntKind.wrap .u64 (((x : Nat) : Int) * ((2 : Int) ^ (min ((7 * i : Nat) : Int).toNat (IntKind.bits .u64)))) = ((x * 128 ^ i % 18446744073709551616 : Nat) : Int) := by
 have e : min ((7 * i : Nat) : Int).toNat (IntKind.bits .u64) = 7 * i := by
  have : IntKind.bits .u64 = 64 := rfl
  omega
 rw [e, show ((2 : Int) ^ (7 * i)) = ((2 ^ (7 * i) : Nat) : Int) by simp, AKk, wrap_u64, AKm]
theorem Mod.more {h h1 h2 : Heap} {S : Nat → Prop} (x : Ext h h1) (m : Mod S h1 h2) (hS : ∀ b, S b → h.size ≤ b) : Ext h h2 :=
 Mod.then x (m.weak fun c _ hc => .inr (hS c hc))
end Go.Lf

/-
 Plain law: a box of files (chapter 3).
-/
set_option maxRecDepth 100000
namespace Go.Lf
open Go
abbrev bs0 : ByteArray := ⟨#[]⟩
theorem sz0 : ByteArray.size ⟨#[]⟩ = 0 := rfl
structure Fi where
 name : ByteArray
 firm : ByteArray
 soft : ByteArray
deriving DecidableEq
def DZ (l : List Fi) : Prop := l.Pairwise fun a b => sLt a.name b.name = true
def BP (k : ByteArray) (l : List Fi) : Option Fi := l.find? fun f => decide (f.name = k)
def La (k : ByteArray) (g : Fi → Fi) (l : List Fi) : List Fi := l.map fun f => if f.name = k then g f else f
def Lj (k : ByteArray) (l : List Fi) : List Fi := l.filter fun f => !decide (f.name = k)
def Xp (x : Fi) : List Fi → List Fi
 | [] => [x]
 | q :: l => if sLt q.name x.name then q :: Xp x l else x :: q :: l
def wtF (l : List Fi) : Nat := (l.map fun f => f.firm.size + f.soft.size + 1).sum
theorem DL (k : ByteArray) (x : Fi) (l : List Fi) : BP k (x :: l) = if x.name = k then some x else BP k l := by
 unfold BP; rw [List.find?_cons]; by_cases h : x.name = k <;> simp [h]
theorem GY {k : ByteArray} {l : List Fi} {x : Fi} (h : BP k l = some x) : x.name = k ∧ x ∈ l := by
 unfold BP at h
 exact ⟨by simpa using List.find?_some h, List.mem_of_find?_eq_some h⟩
theorem Km {k : ByteArray} {l : List Fi} (h : BP k l = none) : ∀ x ∈ l, x.name ≠ k := by
 unfold BP at h; rw [List.find?_eq_none] at h; simpa using h
theorem PO {k : ByteArray} {l : List Fi} (h : ∀ x ∈ l, x.name ≠ k) : BP k l = none := by
 unfold BP; rw [List.find?_eq_none]; simpa using h
theorem DZ.find {l : List Fi} (s : DZ l) {x : Fi} (hx : x ∈ l) : BP x.name l = some x := by
 induction l with
 | nil => cases hx
 | cons y l ih =>
  rw [DL]
  have s' := List.pairwise_cons.1 s
  rcases List.mem_cons.1 hx with rfl | hx
  ·simp
  ·rw [if_neg (Js (s'.1 x hx))]; exact ih s'.2 hx
theorem KF (x : Fi) : ∀ l, (Xp x l).Perm (x :: l)
 | [] => List.Perm.refl _
 | q :: l => by
  unfold Xp
  split
  ·exact ((KF x l).cons q).trans (List.Perm.swap x q l)
  ·exact List.Perm.refl _
theorem PH {x : Fi} : ∀ {l : List Fi}, DZ l → (∀ y ∈ l, y.name ≠ x.name) → DZ (Xp x l)
 | [], _, _ => List.pairwise_singleton _ _
 | q :: l, s, hn => by
  have s' := List.pairwise_cons.1 s
  unfold Xp
  split
  ·rename_i h
   refine List.pairwise_cons.2 ⟨fun y hy => ?_, PH s'.2 fun y hy => hn y (List.mem_cons_of_mem _ hy)⟩
   rcases List.mem_cons.1 ((KF x l).subset hy) with rfl | hy
   ·exact h
   ·exact s'.1 y hy
  ·rename_i h
   have hlt : sLt x.name q.name = true := by
    cases h2 : sLt x.name q.name
    ·exact absurd (J7 (by simpa using h) h2) (hn q List.mem_cons_self)
    ·rfl
   refine List.pairwise_cons.2 ⟨fun y hy => ?_, s⟩
   rcases List.mem_cons.1 hy with rfl | hy
   ·exact hlt
   ·exact CP hlt (s'.1 y hy)
theorem AEN {k : ByteArray} {g : Fi → Fi} (hg : ∀ f, (g f).name = f.name) (l : List Fi) : (La k g l).map (·.name) = l.map (·.name) := by
 unfold La
 rw [List.map_map]
 refine List.map_congr_left fun f _ => ?_
 simp only [Function.comp]
 split <;> simp [hg]
theorem Om {l : List Fi} : DZ l ↔ Vk (l.map (·.name)) := by unfold DZ Vk; rw [List.pairwise_map]
theorem Ur {k : ByteArray} {g : Fi → Fi} (hg : ∀ f, (g f).name = f.name) {l : List Fi} (s : DZ l) : DZ (La k g l) := by
 rw [Om, AEN hg]; exact Om.1 s
theorem AB4 {k : ByteArray} {l : List Fi} (s : DZ l) : DZ (Lj k l) := s.sublist List.filter_sublist
theorem UL {k c : ByteArray} {g : Fi → Fi} (hg : ∀ f, (g f).name = f.name) : ∀ l : List Fi, BP c (La k g l) = (BP c l).map fun f => if f.name = k then g f else f
 | [] => rfl
 | x :: l => by
  show BP c ((if x.name = k then g x else x) :: La k g l) = _
  rw [DL, DL, UL hg l]
  have : (if x.name = k then g x else x).name = x.name := by split <;> simp [hg]
  rw [this]
  by_cases h : x.name = c <;> simp [h]
theorem Ti {k c : ByteArray} : ∀ l : List Fi, BP c (Lj k l) = if c = k then none else BP c l
 | [] => by simp [Lj, BP]
 | x :: l => by
  have ih := Ti (k := k) (c := c) l
  unfold Lj at ih ⊢
  rw [List.filter_cons, DL]
  by_cases h1 : x.name = k
  ·simp only [h1, decide_true, Bool.not_true, Bool.false_eq_true, if_false]
   rw [ih]
   by_cases h2 : c = k
   ·simp [h2]
   ·simp [h2, Ne.symm h2]
  ·simp only [h1, decide_false, Bool.not_false, if_true]
   rw [DL, ih]
   by_cases h2 : c = k
   ·subst h2; simp [h1]
   ·simp [h2]
theorem Ze {x : Fi} {c : ByteArray} : ∀ {l : List Fi}, (∀ y ∈ l, y.name ≠ x.name) → BP c (Xp x l) = if x.name = c then some x else BP c l
 | [], _ => by show BP c [x] = _; rw [DL]
 | q :: l, hn => by
  unfold Xp
  split
  ·rw [DL, Ze fun y hy => hn y (List.mem_cons_of_mem _ hy), DL]
   by_cases h1 : q.name = c
   ·simp [h1]
    intro h2
    exact absurd (h1.trans h2.symm) (hn q List.mem_cons_self)
   ·simp [h1]
  ·rw [DL]
theorem FY (x : Fi) (l : List Fi) : wtF (x :: l) = x.firm.size + x.soft.size + 1 + wtF l := by simp [wtF]
theorem AHn {l m : List Fi} (h : l.Perm m) : wtF l = wtF m := (h.map _).sum_nat
theorem AFn (x : Fi) (l : List Fi) : wtF (Xp x l) = x.firm.size + x.soft.size + 1 + wtF l := by rw [AHn (KF x l), FY]
theorem Nh : ∀ l : List Fi, l.length ≤ wtF l
 | [] => by simp [wtF]
 | x :: l => by rw [FY, List.length_cons]; have := Nh l; omega
theorem Rp {x : Fi} : ∀ {l : List Fi}, x ∈ l → x.firm.size + x.soft.size ≤ wtF l
 | [], h => by cases h
 | y :: l, h => by
  rw [FY]
  rcases List.mem_cons.1 h with rfl | h
  ·omega
  ·have := Rp h; omega
theorem ABk {k : ByteArray} : ∀ l : List Fi, wtF (Lj k l) ≤ wtF l
 | [] => by simp [Lj, wtF]
 | x :: l => by
  have := ABk (k := k) l
  unfold Lj at this ⊢
  rw [List.filter_cons]
  split
  ·rw [FY, FY]; omega
  ·rw [FY]; omega
theorem SE {k : ByteArray} {g : Fi → Fi} {d : Nat} (hg : ∀ f, (g f).firm.size + (g f).soft.size ≤ f.firm.size + f.soft.size + d) : ∀ {l : List Fi}, DZ l → wtF (La k g l) ≤ wtF l + d
 | [], _ => by simp [La, wtF]
 | x :: l, s => by
  have s' := List.pairwise_cons.1 s
  show wtF ((if x.name = k then g x else x) :: La k g l) ≤ _
  rw [FY, FY]
  split
  ·rename_i h
   have : La k g l = l := by
    unfold La
    rw [List.map_congr_left (g := id) fun y hy => ?_, List.map_id]
    have := Js (s'.1 y hy)
    rw [if_neg (fun e => this (h.trans e.symm))]; rfl
   rw [this]
   have := hg x
   omega
  ·have := SE hg (k := k) s'.2
   omega
structure Bx where
 files : List Fi
 fuel : Int
 down : Bool
def AE0 : Bx := ⟨[], -1, false⟩
def IV (n : ByteArray) : Bool := decide (n = bs0) || decide (n.size > 32)
def Ez (m : Bx) : Bx := if m.fuel > 0 then { m with fuel := m.fuel - 1 } else m
def Ii (m : Bx) : Bx := { m with down := true }
def Oh (name : ByteArray) (l : List Fi) : List Fi := if (BP name l).isSome then l else Xp ⟨name, bs0, bs0⟩ l
def Mv (data : ByteArray) (f : Fi) : Fi := { f with soft := f.soft ++ data }
def OI (f : Fi) : Fi := ⟨f.name, f.firm ++ f.soft, bs0⟩
def CX (m : Bx) (name data : ByteArray) : Int × Bx :=
 if m.down then (30, m) else if IV name then (1, m) else if m.fuel = 0 then (30, Ii m) else (0, { Ez m with files := La name (Mv data) (Oh name m.files) })
def EO (m : Bx) (name : ByteArray) : Int × Bx :=
 if m.down then (30, m) else if (BP name m.files).isNone then (31, m) else if m.fuel = 0 then (30, Ii m) else (0, { Ez m with files := La name OI m.files })
def En (m : Bx) (name : ByteArray) : Int × Bx :=
 if m.down then (30, m) else if (BP name m.files).isNone then (31, m) else if m.fuel = 0 then (30, Ii m) else (0, { Ez m with files := Lj name m.files })
def PI (m : Bx) (name : ByteArray) : ByteArray × Int :=
 if m.down then (bs0, 30) else match BP name m.files with | none => (bs0, 31) | some f => (f.firm ++ f.soft, 0)
def Us (m : Bx) (n : Int) : Bx := { m with fuel := if (-1 : Int) > n then -1 else n }
def Me (keep : List Int) (k : Nat) (f : Fi) : ByteArray :=
 if f.soft = bs0 then f.firm else match keep[k]? with | some n => f.firm ++ f.soft.extract 0 (min n.toNat f.soft.size) | none => f.firm
def LP (k : Nat) (f : Fi) : Nat := if f.soft = bs0 then k else k + 1
def Yy (keep : List Int) (k : Nat) (f : Fi) : List Fi := if Me keep k f = bs0 then [] else [⟨f.name, Me keep k f, bs0⟩]
def Cg (keep : List Int) : Nat → List Fi → List Fi
 | _, [] => []
 | k, f :: l => Yy keep k f ++ Cg keep (LP k f) l
def Qw (m : Bx) (keep : List Int) : Bx := ⟨Cg keep 0 m.files, -1, false⟩
structure DK (m : Bx) : Prop where
 sorted : DZ m.files
 names : ∀ f ∈ m.files, f.name.size ≤ 32
 lo : -1 ≤ m.fuel
 hi : m.fuel ≤ 9223372036854775807
 wt : wtF m.files ≤ 8796093022208
theorem AC7 (a b : ByteArray) : (a ++ b).size = a.size + b.size := ByteArray.size_append
theorem NT (a : ByteArray) : a ++ bs0 = a := by simp [ByteArray.ext_iff, bs0]
theorem Nb (a : ByteArray) : bs0 ++ a = a := by simp [ByteArray.ext_iff, bs0]
theorem AGi : DK AE0 := ⟨List.Pairwise.nil, by simp [AE0], by simp [AE0], by simp [AE0], by simp [AE0, wtF]⟩
theorem DK.tick {m : Bx} (g : DK m) (l : List Fi) (h1 : DZ l) (h2 : ∀ f ∈ l, f.name.size ≤ 32) (h3 : wtF l ≤ 8796093022208) : DK { Ez m with files := l } := by
 have := g.lo; have := g.hi
 refine ⟨h1, h2, ?_, ?_, h3⟩
 ·show -1 ≤ (Ez m).fuel
  unfold Ez; split <;> (try simp only []) <;> omega
 ·show (Ez m).fuel ≤ _
  unfold Ez; split <;> (try simp only []) <;> omega
theorem DK.off {m : Bx} (g : DK m) : DK (Ii m) := ⟨g.sorted, g.names, g.lo, g.hi, g.wt⟩
theorem WK {name : ByteArray} {l : List Fi} (s : DZ l) : DZ (Oh name l) ∧ wtF (Oh name l) ≤ wtF l + 1 ∧ (∀ f ∈ Oh name l, f ∈ l ∨ f.name = name) := by
 unfold Oh
 split
 ·exact ⟨s, by omega, fun f hf => .inl hf⟩
 ·rename_i h
  have hn := Km (by simpa using h)
  refine ⟨PH s hn, by rw [AFn]; simp [sz0]; omega, fun f hf => ?_⟩
  rcases List.mem_cons.1 ((KF _ l).subset hf) with rfl | hf
  ·exact .inr rfl
  ·exact .inl hf
theorem ACE {k : ByteArray} {g : Fi → Fi} (hg : ∀ f, (g f).name = f.name) {l : List Fi} {f : Fi} (hf : f ∈ La k g l) : ∃ f' ∈ l, f'.name = f.name := by
 unfold La at hf
 obtain ⟨f', h1, rfl⟩ := List.mem_map.1 hf
 exact ⟨f', h1, by split <;> simp [hg]⟩
theorem DK.append {m : Bx} (g : DK m) {name data : ByteArray} (hw : wtF m.files + data.size + 1 ≤ 8796093022208) : DK (CX m name data).2 := by
 unfold CX
 split
 ·exact g
 ·split
  ·exact g
  ·rename_i hb
   split
   ·exact g.off
   ·obtain ⟨h1, h2, h3⟩ := WK (name := name) g.sorted
    refine g.tick _ (Ur (k := name) (g := Mv data) (fun _ => rfl) h1) (fun f hf => ?_) ?_
    ·obtain ⟨f', h4, h5⟩ := ACE (g := Mv data) (fun _ => rfl) hf
     rw [← h5]
     rcases h3 f' h4 with h | h
     ·exact g.names f' h
     ·rw [h]; simp [IV] at hb; omega
    ·have := SE (k := name) (g := Mv data) (d := data.size) (fun f => by simp [Mv]; omega) h1
     omega
theorem DK.sync {m : Bx} (g : DK m) {name : ByteArray} : DK (EO m name).2 := by
 unfold EO
 split
 ·exact g
 ·split
  ·exact g
  ·split
   ·exact g.off
   ·refine g.tick _ (Ur (k := name) (g := OI) (fun _ => rfl) g.sorted) (fun f hf => ?_) ?_
    ·obtain ⟨f', h4, h5⟩ := ACE (g := OI) (fun _ => rfl) hf
     rw [← h5]; exact g.names f' h4
    ·have := SE (k := name) (g := OI) (d := 0) (fun f => by simp [OI, sz0]) g.sorted
     have := g.wt; omega
theorem DK.delete {m : Bx} (g : DK m) {name : ByteArray} : DK (En m name).2 := by
 unfold En
 split
 ·exact g
 ·split
  ·exact g
  ·split
   ·exact g.off
   ·exact g.tick _ (AB4 g.sorted) (fun f hf => g.names f (List.mem_filter.1 hf).1) (Nat.le_trans (ABk _) g.wt)
theorem DK.fuel {m : Bx} (g : DK m) {n : Int} (hn : n ≤ 9223372036854775807) : DK (Us m n) := by
 refine ⟨g.sorted, g.names, ?_, ?_, g.wt⟩ <;> (simp only [Us]; split <;> omega)
theorem Kc {keep : List Int} : ∀ {l : List Fi} {k : Nat} {f : Fi}, f ∈ Cg keep k l → ∃ f' ∈ l, f'.name = f.name
 | [], _, _, h => by simp [Cg] at h
 | x :: l, k, f, h => by
  unfold Cg at h
  rcases List.mem_append.1 h with h | h
  ·unfold Yy at h
   split at h
   ·cases h
   ·simp at h; exact ⟨x, List.mem_cons_self, by rw [h]⟩
  ·obtain ⟨f', h1, h2⟩ := Kc h
   exact ⟨f', List.mem_cons_of_mem _ h1, h2⟩
theorem Qb {keep : List Int} : ∀ {l : List Fi} {k : Nat}, DZ l → DZ (Cg keep k l)
 | [], _, _ => List.Pairwise.nil
 | x :: l, k, s => by
  have s' := List.pairwise_cons.1 s
  unfold Cg
  refine List.pairwise_append.2 ⟨?_, Qb s'.2, ?_⟩
  ·unfold Yy; split
   ·exact List.Pairwise.nil
   ·exact List.pairwise_singleton _ _
  ·intro a ha b hb
   have : a.name = x.name := by
    unfold Yy at ha; split at ha
    ·cases ha
    ·simp at ha; rw [ha]
   obtain ⟨f', h1, h2⟩ := Kc hb
   rw [this, ← h2]; exact s'.1 f' h1
theorem AGr (keep : List Int) (k : Nat) (f : Fi) : (Me keep k f).size ≤ f.firm.size + f.soft.size := by
 unfold Me
 split
 ·omega
 ·split
  ·rw [AC7, ByteArray.size_extract]; omega
  ·omega
theorem UM {keep : List Int} : ∀ {l : List Fi} {k : Nat}, wtF (Cg keep k l) ≤ wtF l
 | [], _ => by simp [Cg]
 | x :: l, k => by
  unfold Cg
  have := UM (keep := keep) (l := l) (k := LP k x)
  have := AGr keep k x
  unfold Yy
  rw [FY]
  split
  ·simp; omega
  ·rw [List.singleton_append, FY]; simp [sz0]; omega
theorem DK.crash {m : Bx} (g : DK m) {keep : List Int} : DK (Qw m keep) :=
 ⟨Qb g.sorted, fun f hf => by obtain ⟨f', h1, h2⟩ := Kc hf; rw [← h2]; exact g.names f' h1, by simp [Qw], by simp [Qw], Nat.le_trans UM g.wt⟩
theorem P7 {m : Bx} (g : DK m) (name data : ByteArray) : wtF (CX m name data).2.files ≤ wtF m.files + data.size + 1 := by
 unfold CX
 split
 ·simp; omega
 ·split
  ·simp; omega
  ·split
   ·simp [Ii]; omega
   ·obtain ⟨h1, h2, _⟩ := WK (name := name) g.sorted
    have := SE (k := name) (g := Mv data) (d := data.size) (fun f => by simp [Mv]; omega) h1
    simp; omega
theorem Sk {m : Bx} (g : DK m) (name : ByteArray) : wtF (EO m name).2.files ≤ wtF m.files := by
 unfold EO
 split
 ·simp
 ·split
  ·simp
  ·split
   ·simp [Ii]
   ·have := SE (k := name) (g := OI) (d := 0) (fun f => by simp [OI, sz0]) g.sorted
    simpa using this
theorem UF {m : Bx} (name : ByteArray) : wtF (En m name).2.files ≤ wtF m.files := by
 unfold En
 split
 ·simp
 ·split
  ·simp
  ·split
   ·simp [Ii]
   ·exact ABk _
theorem AIA {m : Bx} {keep : List Int} : wtF (Qw m keep).files ≤ wtF m.files := UM
end Go.Lf

