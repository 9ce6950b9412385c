/-
 Ranges over maps of strings.
-/
import Derived.Test.YteecdmkgblonnaaGreatDoorLfU1ToU9
import Derived.Maps.RangeRun
set_option linter.unusedVariables false
set_option linter.unusedSimpArgs false
set_option maxRecDepth 100000
set_option linter.unusedVariables false
set_option linter.unusedSimpArgs false
namespace Go.Lf
open Go
/-- an iterator over a map that has not been written since: n entries are left -/
def MapIter (h : Heap) (r b : Nat) (m : List (ByteArray × Value)) (n : Nat) : Prop :=
 ∃ es clock seen, h[b]? = some (.map es clock) ∧ MapOf es clock m ∧ h[r]? = some (.mapIter (some b) clock seen clock) ∧ n = (leftOf es seen).size
/-- behind a step: the pair that was told -/
def MapStep (h : Heap) (r b : Nat) (m : List (ByteArray × Value)) (p : ByteArray × Value) (n : Nat) : Prop :=
 ∃ es clock seen e, h[b]? = some (.map es clock) ∧ MapOf es clock m ∧ h[r]? = some (.mapIter (some b) clock (Array.push seen e.born) clock) ∧ e ∈ es.toList ∧ e.key = .string p.1 ∧ e.val = p.2 ∧ n = (leftOf es (seen.push e.born)).size
theorem MapStep.iter {h : Heap} {r b n : Nat} {m : List (ByteArray × Value)} {p : ByteArray × Value} (s : MapStep h r b m p n) : MapIter h r b m n := by
 obtain ⟨es, clock, seen, e, h1, h2, h3, _, _, _, h4⟩ := s
 exact ⟨es, clock, _, h1, h2, h3, h4⟩
theorem MapIter.mod {h h' : Heap} {r b n : Nat} {m : List (ByteArray × Value)} {S : Nat → Prop} (s : MapIter h r b m n) (x : Mod S h h') (hb : ¬ S b) (hr : ¬ S r) : MapIter h' r b m n := by
 obtain ⟨es, clock, seen, h1, h2, h3, h4⟩ := s
 exact ⟨es, clock, seen, x.blk h1 hb, h2, x.blk h3 hr, h4⟩
theorem MapIter.ne {h : Heap} {r b n : Nat} {m : List (ByteArray × Value)} (s : MapIter h r b m n) : r ≠ b := by
 obtain ⟨es, clock, seen, h1, h2, h3, h4⟩ := s
 rintro rfl
 rw [h1] at h3; cases h3
theorem range_ok {A : Amb} {P : Program} {t k e : TypeId} (ht : P.underlying t = some (.map k e)) {h : Heap} {b : Nat} {m : List (ByteArray × Value)} {K : Value → Heap → Prop} (M : MapS h b m)
  (H : ∀ h', MapIter h' h.size b m m.length → Ext h h' → h'.size = h.size + 1 → K (.pointer (some ⟨h.size, 0, none⟩)) h') : RunK A P (Instr.range t (.map (some b))) h K := by
 obtain ⟨es, clock, hb, M⟩ := M
 have hlt := blk_lt hb
 refine fun n => ⟨.pointer (some ⟨h.size, 0, none⟩), h.push (.mapIter (some b) clock #[] clock), n, ?_, H _ ⟨es, clock, #[], ?_, M, ?_, ?_⟩ (Mod.push h _) (by simp)⟩
 ·have h1 : (A.at h n).heap[b]? = some (.map es clock) := hb
  simp only [Instr.range, Sem.run_bind, run_und ht, Result.andThen_ok, getObj, Sem.run, h1, Result.andThen, newObj]
  rfl
 ·rw [Array.getElem?_push_lt hlt]
  rw [Array.getElem?_eq_getElem hlt] at hb
  exact hb
 ·simp
 ·rw [← M.len]
  have e1 : leftOf es #[] = es := Array.filter_eq_self.2 fun x hx => by simp
  rw [e1]
theorem left_push {es : Array MapEntry} {seen : Array Nat} {e : MapEntry} (he : e ∈ (leftOf es seen).toList) : (leftOf es (seen.push e.born)).size < (leftOf es seen).size := by
 have h1 : leftOf es (seen.push e.born) = (leftOf es seen).filter fun x => !(x.born == e.born) := by
  unfold leftOf
  rw [Array.filter_filter]
  congr 1
  funext x
  have : (seen.push e.born).contains x.born = (seen.contains x.born || x.born == e.born) := by
   rw [Bool.eq_iff_iff]; simp
  rw [this]
  cases seen.contains x.born <;> cases (x.born == e.born) <;> rfl
 have h2 : (leftOf es (seen.push e.born)).toList = (leftOf es seen).toList.filter fun x => !(x.born == e.born) := by rw [h1, Array.toList_filter]
 have h3 := congrArg List.length h2
 rw [Array.length_toList] at h3
 rw [h3, ← Array.length_toList (xs := leftOf es seen)]
 refine Nat.lt_of_le_of_ne (List.length_filter_le _ _) fun hh => ?_
 have := List.length_filter_eq_length_iff.1 hh e he
 simp at this
theorem next_ok {A : Amb} {P : Program} {ty : TypeId} {h : Heap} {r b n : Nat} {m : List (ByteArray × Value)} {K : Value → Heap → Prop} (I : MapIter h r b m n)
  (H0 : K (.tuple #[.bool false]) h) (H1 : ∀ p ∈ m, ∀ h' n', MapStep h' r b m p n' → n' < n → Mod (· = r) h h' → K (.tuple #[.bool true, .string p.1, p.2]) h') :
  RunK A P (Instr.next (.pointer (some ⟨r, 0, none⟩)) false ty) h K := by
 have hne := I.ne
 obtain ⟨es, clock, seen, hb, M, hr, hn⟩ := I
 intro d
 have hold : ∀ x ∈ es.toList, x.born < clock := M.stamped.1
 rcases run_next_at (P := P) (A.at h d) ty r b clock clock seen es clock hr hb hold (Nat.le_refl _) with ⟨_, hrun⟩ | ⟨e, he, w1, hw, hrun⟩
 ·exact ⟨_, h, d, hrun, H0⟩
 ·have hes : e ∈ es.toList := by
   unfold leftOf at he
   simp at he
   simpa using he.1
  have hm : (e.key, e.val) ∈ m.map fun p => (Value.string p.1, p.2) := by rw [← M.same]; exact List.mem_map.2 ⟨e, hes, rfl⟩
  obtain ⟨p, hp, hpe⟩ := List.mem_map.1 hm
  simp only [Prod.mk.injEq] at hpe
  have hlt := blk_lt hr
  have e1 : ∃ d', ChangeMaps.setBlock w1 r (.mapIter (some b) clock (seen.push e.born) clock) = A.at (h.setIfInBounds r (.mapIter (some b) clock (seen.push e.born) clock)) d' := by
   rcases hw with rfl | rfl
   ·exact ⟨d, rfl⟩
   ·exact ⟨d + 1, rfl⟩
  obtain ⟨d', e1⟩ := e1
  rw [e1] at hrun
  rw [← hpe.1, ← hpe.2] at hrun
  refine ⟨_, _, d', hrun, ?_⟩
  have hr' : (h.setIfInBounds r (.mapIter (some b) clock (seen.push e.born) clock))[r]? = some (.mapIter (some b) clock (seen.push e.born) clock) := setObj_self hlt
  have m' : Mod (· = r) h (h.setIfInBounds r (.mapIter (some b) clock (seen.push e.born) clock)) := Mod.setObj rfl
  refine H1 p hp _ (leftOf es (seen.push e.born)).size ⟨es, clock, seen, e, m'.blk hb hne.symm, M, hr', hes, hpe.1.symm, hpe.2.symm, rfl⟩ ?_ m'
  rw [hn]
  exact left_push he
theorem entry_ok {A : Amb} {P : Program} {h : Heap} {r b n : Nat} {m : List (ByteArray × Value)} {p : ByteArray × Value} {K : Value → Heap → Prop} (S : MapStep h r b m p n) (H : K (.tuple #[.string p.1, p.2]) h) :
  RunK A P (Instr.entry (.pointer (some ⟨r, 0, none⟩))) h K := by
 obtain ⟨es, clock, seen, e, hb, M, hr, he, hk, hv, _⟩ := S
 intro d
 have := run_entry_at (P := P) (A.at h d) r b clock seen es clock e hr hb he M.stamped.2.1
 rw [hk, hv] at this
 exact ⟨_, h, d, this, H⟩
end Go.Lf

