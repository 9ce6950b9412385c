/-
  LIFT, part U3: an owned slice's element is written; more words.
-/
import Derived.Test.YtcaiammecilkeaaLfU2
set_option maxRecDepth 100000
namespace Go.Lf
open Go

theorem flat_set {α : Type} {E : Enc α} {x x' : α} {j : Nat} {v : Value} (hx : E.enc x' = (E.enc x).set j v) (hj : j < E.w) : ∀ {l : List α} {i : Nat}, l[i]? = some x → (l.set i x').flatMap E.enc = (l.flatMap E.enc).set (i * E.w + j) v
  | [], _, h => by simp at h
  | y :: l, 0, h => by
    simp at h; subst h
    rw [List.set_cons_zero, List.flatMap_cons, List.flatMap_cons, hx, Nat.zero_mul, Nat.zero_add, List.set_append_left _ _ (by rw [E.len]; exact hj)]
  | y :: l, i + 1, h => by
    rw [List.set_cons_succ, List.flatMap_cons, List.flatMap_cons, flat_set hx hj (l := l) (i := i) (by simpa using h), List.set_append_right _ _ (by rw [E.len, Nat.add_mul]; omega), E.len]
    rw [show (i + 1) * E.w + j - E.w = i * E.w + j by rw [Nat.add_mul]; omega]

theorem Own.store {α : Type} {E : Enc α} {T : TypeId} {h : Heap} {s : Sl} {l : List α} {i j : Nat} {x x' : α} {v : Value} {K : Heap → Prop} (o : Own E T h s l) (hi : l[i]? = some x) (hx : E.enc x' = (E.enc x).set j v) (hj : j < E.w)
    (H : ∀ h', Own E T h' s (l.set i x') → Mod (fun c => s.blk = some c) h h' → h'.size = h.size → K h') : ∀ a, s.p = some a → Store h ((a.add (i * E.w)).add j) v K := by
  intro a ha
  rcases o.row with ⟨rfl, rfl⟩ | ⟨g, cur, hp, hg, hc, hm, hs, ht⟩
  · simp at hi
  · rw [hp] at ha; cases ha
    rw [add_add, add_mk, Nat.zero_add]
    have hil : i < l.length := (List.getElem?_eq_some_iff.1 hi).1
    have hlt : i * E.w + j < s.len * E.w := by
      have : (i + 1) * E.w ≤ s.len * E.w := Nat.mul_le_mul_right _ (by rw [o.len]; exact hil)
      rw [Nat.add_mul] at this; omega
    have hcap : s.len * E.w ≤ cur.size := by rw [hs]; exact Nat.mul_le_mul_right _ hc
    refine Store.mk hg (by omega) fun h' hg' m hsz => H h' ⟨by rw [List.length_set]; exact o.len, .inr ⟨g, _, hp, hg', hc, hm, by simpa using hs, ?_⟩⟩ (m.weak fun c _ hcc => by simp [Sl.blk, hp, hcc]) hsz
    rw [Array.toList_setIfInBounds, List.take_set, ht, flat_set hx hj hi]

/-- an element's cell is read -/
theorem Own.ne {α : Type} {E : Enc α} {T T' : TypeId} {h : Heap} {s : Sl} {l : List α} (o : Own E T h s l) {b : Nat} {cs : Array Value} {fr : Nat × Nat} (hb : h[b]? = some (.cells cs T' fr)) (hT : T ≠ T') : s.blk ≠ some b := by
  intro e
  rcases o.row with ⟨rfl, _⟩ | ⟨g, cur, hp, hg, _⟩
  · simp [Sl.blk] at e
  · simp [Sl.blk, hp] at e; subst e
    rw [hg] at hb
    injection hb with hb
    injection hb with _ h2 _
    exact hT h2

theorem max_i64 : IntKind.max .i64 = 9223372036854775807 := by simp [IntKind.max, IntKind.bits, IntKind.signed]

/-! ### what a crash keeps, file by file -/
def cntF (k : Nat) (l : List Fi) : Nat := l.foldl nextF k
theorem crashF_app (keep : List Int) : ∀ (l1 l2 : List Fi) (k : Nat), crashF keep k (l1 ++ l2) = crashF keep k l1 ++ crashF keep (cntF k l1) l2
  | [], _, _ => rfl
  | x :: l1, l2, k => by
    show oneF keep k x ++ crashF keep (nextF k x) (l1 ++ l2) = _
    rw [crashF_app keep l1 l2, ← List.append_assoc]; rfl
theorem crashF_len {keep : List Int} : ∀ {l : List Fi} {k : Nat}, (crashF keep k l).length ≤ l.length
  | [], _ => by simp [crashF]
  | x :: l, k => by
    have := crashF_len (keep := keep) (l := l) (k := nextF k x)
    unfold crashF oneF
    split <;> simp <;> omega
theorem wtF_take : ∀ (n : Nat) (l : List Fi), wtF (l.take n) ≤ wtF l
  | 0, l => by simp [wtF]
  | n + 1, [] => by simp
  | n + 1, x :: l => by rw [List.take_succ_cons, wtF_cons, wtF_cons]; have := wtF_take n l; omega
theorem Mod.weak' {S S' : Nat → Prop} {h h1 : Heap} (a : Mod S h h1) (hs : ∀ b, b < h.size → ¬ S b) : Mod S' h h1 := a.weak fun b hb h => (hs b hb h).elim
theorem cntF_snoc (k : Nat) (l : List Fi) (x : Fi) : cntF k (l ++ [x]) = nextF (cntF k l) x := by simp [cntF]
theorem cntF_le : ∀ (l : List Fi) (k : Nat), cntF k l ≤ k + l.length
  | [], k => by simp [cntF]
  | x :: l, k => by
    show cntF (nextF k x) l ≤ _
    have := cntF_le l (nextF k x)
    have : nextF k x ≤ k + 1 := by unfold nextF; split <;> omega
    rw [List.length_cons]; omega
theorem crashF_snoc (keep : List Int) (l : List Fi) (x : Fi) : crashF keep 0 (l ++ [x]) = crashF keep 0 l ++ oneF keep (cntF 0 l) x := by
  rw [crashF_app]; simp [crashF]
end Go.Lf
