/-
 Ranges over maps of strings, each pair told once.
-/
import Derived.Test.YteecdmkgblonnaaGreatDoorLfU13
set_option linter.unusedVariables false
set_option linter.unusedSimpArgs false
set_option maxRecDepth 100000
set_option linter.unusedVariables false
set_option linter.unusedSimpArgs false
namespace Go.Lf
open Go
def gP (p : ByteArray × Value) : Value × Value := (Value.string p.1, p.2)
def gE (e : MapEntry) : Value × Value := (e.key, e.val)
theorem born_perm {e : MapEntry} : ∀ {l : List MapEntry}, (l.map (·.born)).Nodup → e ∈ l → l.Perm (e :: l.filter fun x => !(x.born == e.born))
 | [], _, h => by cases h
 | x :: l, nd, h => by
  rw [List.map_cons, List.nodup_cons] at nd
  by_cases hb : x.born = e.born
  ·have hx : x = e := by
    rcases List.mem_cons.1 h with h | h
    ·exact h.symm
    ·exact absurd (List.mem_map.2 ⟨e, h, hb.symm⟩) nd.1
   subst hx
   rw [List.filter_cons, if_neg (by simp), List.filter_eq_self.2 fun y hy => ?_]
   simp only [Bool.not_eq_true', beq_eq_false_iff_ne]
   intro e2
   exact nd.1 (List.mem_map.2 ⟨y, hy, e2⟩)
  ·rw [List.filter_cons, if_pos (by simp [hb])]
   have hm : e ∈ l := by
    rcases List.mem_cons.1 h with h | h
    ·exact absurd (by rw [h]) hb
    ·exact h
   exact ((born_perm nd.2 hm).cons x).trans (.swap e x _)
/-- an iterator: L is what is left to tell -/
def MapIterS (h : Heap) (r b : Nat) (m L : List (ByteArray × Value)) : Prop :=
 ∃ es clock seen, h[b]? = some (.map es clock) ∧ MapOf es clock m ∧ h[r]? = some (.mapIter (some b) clock seen clock) ∧ (L.map gP).Perm ((leftOf es seen).toList.map gE)
theorem MapIterS.iter {h : Heap} {r b : Nat} {m L : List (ByteArray × Value)} (I : MapIterS h r b m L) : MapIter h r b m L.length := by
 obtain ⟨es, clock, seen, h1, h2, h3, h4⟩ := I
 exact ⟨es, clock, seen, h1, h2, h3, by simpa using h4.length_eq⟩
theorem MapIterS.mod {h h' : Heap} {r b : Nat} {m L : List (ByteArray × Value)} {S : Nat → Prop} (s : MapIterS h r b m L) (x : Mod S h h') (hb : ¬ S b) (hr : ¬ S r) : MapIterS h' r b m L := by
 obtain ⟨es, clock, seen, h1, h2, h3, h4⟩ := s
 exact ⟨es, clock, seen, x.blk h1 hb, h2, x.blk h3 hr, h4⟩
theorem rangeS_ok {A : Amb} {P : Program} {t k e : TypeId} (ht : P.underlying t = some (.map k e)) {h : Heap} {b : Nat} {m : List (ByteArray × Value)} {K : Value → Heap → Prop} (M : MapS h b m)
  (H : ∀ h', MapIterS h' h.size b m m → Ext h h' → h'.size = h.size + 1 → K (.pointer (some ⟨h.size, 0, none⟩)) h') : RunK A P (Instr.range t (.map (some b))) h K := by
 obtain ⟨es, clock, hb, M⟩ := M
 have hlt := blk_lt hb
 refine fun n => ⟨.pointer (some ⟨h.size, 0, none⟩), h.push (.mapIter (some b) clock #[] clock), n, ?_, H _ ⟨es, clock, #[], ?_, M, ?_, ?_⟩ (Mod.push h _) (by simp)⟩
 ·have h1 : (A.at h n).heap[b]? = some (.map es clock) := hb
  simp only [Instr.range, Sem.run_bind, run_und ht, Result.andThen_ok, getObj, Sem.run, h1, Result.andThen, newObj]
  rfl
 ·rw [Array.getElem?_push_lt hlt]
  rw [Array.getElem?_eq_getElem hlt] at hb
  exact hb
 ·simp
 ·have e1 : leftOf es #[] = es := Array.filter_eq_self.2 fun x hx => by simp
  rw [e1]
  exact .of_eq M.same.symm
theorem nextS_ok {A : Amb} {P : Program} {ty : TypeId} {h : Heap} {r b : Nat} {m L : List (ByteArray × Value)} {K : Value → Heap → Prop} (I : MapIterS h r b m L)
  (H0 : L = [] → K (.tuple #[.bool false]) h) (H1 : ∀ p L' h', L.Perm (p :: L') → MapIterS h' r b m L' → MapStep h' r b m p L'.length → Mod (· = r) h h' → K (.tuple #[.bool true, .string p.1, p.2]) h') :
  RunK A P (Instr.next (.pointer (some ⟨r, 0, none⟩)) false ty) h K := by
 have hne := I.iter.ne
 obtain ⟨es, clock, seen, hb, M, hr, hL⟩ := I
 intro d
 have hold : ∀ x ∈ es.toList, x.born < clock := M.stamped.1
 rcases run_next_at (P := P) (A.at h d) ty r b clock clock seen es clock hr hb hold (Nat.le_refl _) with ⟨h0, hrun⟩ | ⟨e, he, w1, hw, hrun⟩
 ·refine ⟨_, h, d, hrun, H0 ?_⟩
  have := hL.length_eq
  simp only [List.length_map, Array.length_toList] at this
  exact List.eq_nil_of_length_eq_zero (by omega)
 ·have hes : e ∈ es.toList := by
   unfold leftOf at he
   simp at he
   simpa using he.1
  have hm : gE e ∈ L.map gP := hL.mem_iff.2 (List.mem_map.2 ⟨e, he, rfl⟩)
  obtain ⟨p, hp, hpe⟩ := List.mem_map.1 hm
  obtain ⟨s, t, rfl⟩ := List.append_of_mem hp
  have hpe' : Value.string p.1 = e.key ∧ p.2 = e.val := Prod.mk.inj hpe
  have hlt := blk_lt hr
  have e1 : ∃ d', ChangeMaps.setBlock w1 r (.mapIter (some b) clock (seen.push e.born) clock) = A.at (h.setIfInBounds r (.mapIter (some b) clock (seen.push e.born) clock)) d' := by
   rcases hw with rfl | rfl
   ·exact ⟨d, rfl⟩
   ·exact ⟨d + 1, rfl⟩
  obtain ⟨d', e1⟩ := e1
  rw [e1] at hrun
  rw [← hpe'.1, ← hpe'.2] at hrun
  refine ⟨_, _, d', hrun, ?_⟩
  have hr' : (h.setIfInBounds r (.mapIter (some b) clock (seen.push e.born) clock))[r]? = some (.mapIter (some b) clock (seen.push e.born) clock) := setObj_self hlt
  have m' : Mod (· = r) h (h.setIfInBounds r (.mapIter (some b) clock (seen.push e.born) clock)) := Mod.setObj rfl
  have hleft : (leftOf es (seen.push e.born)).toList = (leftOf es seen).toList.filter fun x => !(x.born == e.born) := by
   rw [← Array.toList_filter]
   congr 1
   unfold leftOf
   rw [Array.filter_filter]
   congr 1
   funext x
   have : (seen.push e.born).contains x.born = (seen.contains x.born || x.born == e.born) := by
    rw [Bool.eq_iff_iff]; simp
   rw [this]
   cases seen.contains x.born <;> cases (x.born == e.born) <;> rfl
  have hnd : ((leftOf es seen).toList.map (·.born)).Nodup := by
   unfold leftOf
   rw [Array.toList_filter]
   exact M.stamped.2.1.sublist (List.filter_sublist.map _)
  have hp1 := (born_perm hnd he).map gE
  rw [← hleft, List.map_cons] at hp1
  have hp2 : (gP p :: (s ++ t).map gP).Perm (gE e :: (leftOf es (seen.push e.born)).toList.map gE) := by
   refine (List.Perm.symm ?_).trans (hL.trans hp1)
   simp only [List.map_append, List.map_cons]
   exact List.perm_middle
  rw [show gP p = gE e from hpe] at hp2
  have hL' := hp2.cons_inv
  refine H1 p (s ++ t) _ List.perm_middle ⟨es, clock, _, m'.blk hb hne.symm, M, hr', hL'⟩ ⟨es, clock, seen, e, m'.blk hb hne.symm, M, hr', hes, hpe'.1.symm, hpe'.2.symm, by simpa using hL'.length_eq⟩ m'
end Go.Lf

