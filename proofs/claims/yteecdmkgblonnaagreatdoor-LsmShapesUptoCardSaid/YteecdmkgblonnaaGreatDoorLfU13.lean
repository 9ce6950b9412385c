/-
 Ranges over maps of strings.
-/
import Derived.Test.YteecdmkgblonnaaGreatDoorLfU1ToU9
import Derived.Maps.RangeRun
set_option linter.unusedVariables false
set_option linter.unusedSimpArgs false
set_option maxRecDepth 100000
set_option linter.unusedVariables false
set_option linter.unusedSimpArgs false
namespace Go.Lf
open Go
/-- an iterator over a map that has not been written since: n entries are left -/
def MapIter (h : Heap) (r b : Nat) (m : List (ByteArray × Value)) (n : Nat) : Prop :=
 ∃ es clock seen, h[b]? = some (.map es clock) ∧ MapOf es clock m ∧ h[r]? = some (.mapIter (some b) clock seen clock) ∧ n = (leftOf es seen).size
/-- behind a step: the pair that was told -/
def MapStep (h : Heap) (r b : Nat) (m : List (ByteArray × Value)) (p : ByteArray × Value) (n : Nat) : Prop :=
 ∃ es clock seen e, h[b]? = some (.map es clock) ∧ MapOf es clock m ∧ h[r]? = some (.mapIter (some b) clock (Array.push seen e.born) clock) ∧ e ∈ es.toList ∧ e.key = .string p.1 ∧ e.val = p.2 ∧ n = (leftOf es (seen.push e.born)).size
theorem MapStep.iter {h : Heap} {r b n : Nat} {m : List (ByteArray × Value)} {p : ByteArray × Value} (s : MapStep h r b m p n) : MapIter h r b m n := by
 obtain ⟨es, clock, seen, e, h1, h2, h3, _, _, _, h4⟩ := s
 exact ⟨es, clock, _, h1, h2, h3, h4⟩
theorem MapIter.mod {h h' : Heap} {r b n : Nat} {m : List (ByteArray × Value)} {S : Nat → Prop} (s : MapIter h r b m n) (x : Mod S h h') (hb : ¬ S b) (hr : ¬ S r) : MapIter h' r b m n := by
 obtain ⟨es, clock, seen, h1, h2, h3, h4⟩ := s
 exact ⟨es, clock, seen, x.blk h1 hb, h2, x.blk h3 hr, h4⟩
theorem MapIter.ne {h : Heap} {r b n : Nat} {m : List (ByteArray × Value)} (s : MapIter h r b m n) : r ≠ b := by
 obtain ⟨es, clock, seen, h1, h2, h3, h4⟩ := s
 rintro rfl
 rw [h1] at h3; cases h3
theorem entry_ok {A : Amb} {P : Program} {h : Heap} {r b n : Nat} {m : List (ByteArray × Value)} {p : ByteArray × Value} {K : Value → Heap → Prop} (S : MapStep h r b m p n) (H : K (.tuple #[.string p.1, p.2]) h) :
  RunK A P (Instr.entry (.pointer (some ⟨r, 0, none⟩))) h K := by
 obtain ⟨es, clock, seen, e, hb, M, hr, he, hk, hv, _⟩ := S
 intro d
 have := run_entry_at (P := P) (A.at h d) r b clock seen es clock e hr hb he M.stamped.2.1
 rw [hk, hv] at this
 exact ⟨_, h, d, this, H⟩
end Go.Lf

