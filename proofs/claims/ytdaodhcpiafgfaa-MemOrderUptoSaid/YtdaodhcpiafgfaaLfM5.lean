/-
  The plain law: lists of pairs in the order of their keys.
-/
import Derived.Test.YtdaodhcpiafgfaaLfM4
namespace Go.Lf.G
open Go

def Sorted (l : List Pr) : Prop := l.Pairwise fun a b => sLt a.key b.key = true
def findK (k : ByteArray) (l : List Pr) : Option Pr := l.find? fun q => decide (q.key = k)

theorem findK_nil (k : ByteArray) : findK k [] = none := rfl
theorem findK_cons (k : ByteArray) (x : Pr) (l : List Pr) : findK k (x :: l) = if x.key = k then some x else findK k l := by
  unfold findK; rw [List.find?_cons]; by_cases h : x.key = k <;> simp [h]
theorem findK_key {k : ByteArray} {l : List Pr} {x : Pr} (h : findK k l = some x) : x.key = k ∧ x ∈ l := by
  unfold findK at h
  exact ⟨by simpa using List.find?_some h, List.mem_of_find?_eq_some h⟩
theorem findK_none {k : ByteArray} {l : List Pr} (h : ∀ x ∈ l, x.key ≠ k) : findK k l = none := by
  unfold findK; rw [List.find?_eq_none]; simpa using h
theorem lt_ne {a b : ByteArray} (h : sLt a b = true) : a ≠ b := by rintro rfl; rw [sLt_irrefl] at h; cases h
theorem Sorted.find {l : List Pr} (s : Sorted l) {x : Pr} (hx : x ∈ l) : findK x.key l = some x := by
  induction l with
  | nil => cases hx
  | cons y l ih =>
    rw [findK_cons]
    have s' := List.pairwise_cons.1 s
    rcases List.mem_cons.1 hx with rfl | hx
    · simp
    · rw [if_neg (lt_ne (s'.1 x hx))]; exact ih s'.2 hx

theorem Sorted.ext : ∀ {l m : List Pr}, Sorted l → Sorted m → (∀ k, findK k l = findK k m) → l = m
  | [], [], _, _, _ => rfl
  | [], y :: m, _, _, h => by have := h y.key; rw [findK_cons, if_pos rfl] at this; cases this
  | x :: l, [], _, _, h => by have := h x.key; rw [findK_cons, if_pos rfl] at this; cases this
  | x :: l, y :: m, sl, sm, h => by
    have sl' := List.pairwise_cons.1 sl
    have sm' := List.pairwise_cons.1 sm
    have hk : x.key = y.key := by
      have h1 := h x.key
      have h2 := h y.key
      rw [findK_cons, if_pos rfl] at h1
      rw [findK_cons y.key y m, if_pos rfl] at h2
      have m1 := (findK_key h1.symm).2
      have m2 := (findK_key h2).2
      rcases List.mem_cons.1 m1 with e | m1
      · rw [e]
      · rcases List.mem_cons.1 m2 with e | m2
        · rw [e]
        · have a1 := sm'.1 x m1
          have a2 := sl'.1 y m2
          rw [sLt_asymm a1] at a2; cases a2
    have hxy : x = y := by
      have h1 := h x.key
      rw [findK_cons, findK_cons, if_pos rfl, if_pos hk.symm] at h1
      exact Option.some.inj h1
    subst hxy
    rw [Sorted.ext sl'.2 sm'.2 fun k => ?_]
    have := h k
    rw [findK_cons, findK_cons] at this
    by_cases hk : x.key = k
    · subst hk
      rw [findK_none fun y hy e => lt_ne (sl'.1 y hy) e.symm, findK_none fun y hy e => lt_ne (sm'.1 y hy) e.symm]
    · simpa [hk] using this

/-! ### putting -/
def ins (x : Pr) : List Pr → List Pr
  | [] => [x]
  | q :: l => if sLt q.key x.key then q :: ins x l else if q.key = x.key then x :: l else x :: q :: l

theorem insL_eq (x : Pr) : ∀ l, insL x l = ins x l
  | [] => rfl
  | q :: l => by
    unfold ins
    cases h : sLt q.key x.key
    · have e : lowK x.key (q :: l) = [] := by simp [lowK, h]
      by_cases hk : q.key = x.key
      · simp [insL, atK, e, thereK, hk]
      · simp [insL, atK, e, thereK, hk]
    · have e : lowK x.key (q :: l) = q :: lowK x.key l := by simp [lowK, h]
      have ea : atK x.key (q :: l) = atK x.key l + 1 := by simp [atK, e]
      have et : thereK x.key (q :: l) = thereK x.key l := by simp [thereK, ea]
      have ih := insL_eq x l
      unfold insL at ih ⊢
      rw [ea, et]
      have ht : (if thereK x.key l = true then atK x.key l + 1 + 1 else atK x.key l + 1) = (if thereK x.key l = true then atK x.key l + 1 else atK x.key l) + 1 := by split <;> rfl
      rw [ht, List.take_succ_cons, List.drop_succ_cons, List.cons_append, List.cons_append, ih]
      simp

theorem ins_mem {x y : Pr} : ∀ {l : List Pr}, y ∈ ins x l → y = x ∨ y ∈ l
  | [], h => by simp [ins] at h; exact .inl h
  | q :: l, h => by
    unfold ins at h
    split at h
    · rcases List.mem_cons.1 h with rfl | h
      · exact .inr (by simp)
      · rcases ins_mem h with h | h
        · exact .inl h
        · exact .inr (by simp [h])
    · split at h
      · rcases List.mem_cons.1 h with rfl | h
        · exact .inl rfl
        · exact .inr (by simp [h])
      · rcases List.mem_cons.1 h with rfl | h
        · exact .inl rfl
        · exact .inr h

theorem ins_sorted (x : Pr) : ∀ {l : List Pr}, Sorted l → Sorted (ins x l)
  | [], _ => List.pairwise_singleton _ _
  | q :: l, s => by
    have s' := List.pairwise_cons.1 s
    unfold ins
    split
    · rename_i h
      refine List.pairwise_cons.2 ⟨fun y hy => ?_, ins_sorted x s'.2⟩
      rcases ins_mem hy with rfl | hy
      · exact h
      · exact s'.1 y hy
    · rename_i h
      split
      · rename_i hk
        refine List.pairwise_cons.2 ⟨fun y hy => ?_, s'.2⟩
        have := s'.1 y hy
        rwa [hk] at this
      · rename_i hk
        have hlt : sLt x.key q.key = true := by
          cases h2 : sLt x.key q.key
          · exact absurd (sLt_tri (by simpa using h) h2) hk
          · rfl
        refine List.pairwise_cons.2 ⟨fun y hy => ?_, s⟩
        rcases List.mem_cons.1 hy with rfl | hy
        · exact hlt
        · exact sLt_trans hlt (s'.1 y hy)

theorem ins_find (x : Pr) (k : ByteArray) : ∀ {l : List Pr}, Sorted l → findK k (ins x l) = if x.key = k then some x else findK k l
  | [], _ => by simp [ins, findK_cons, findK_nil]
  | q :: l, s => by
    have s' := List.pairwise_cons.1 s
    unfold ins
    split
    · rename_i h
      rw [findK_cons, findK_cons, ins_find x k s'.2]
      by_cases h1 : q.key = k
      · have h2 : x.key ≠ k := by rw [← h1]; exact fun e => lt_ne h e.symm
        simp [h1, h2]
      · simp [h1]
    · split
      · rename_i hk
        rw [findK_cons, findK_cons, hk]
        by_cases h1 : x.key = k <;> simp [h1]
      · rw [findK_cons]

def GoodL (l : List Pr) : Prop := ∀ x ∈ l, wrongP x = 0

theorem putL_good {x : Pr} {l : List Pr} (h : wrongP x = 0) : putL x l = ins x l := by simp [putL, h, insL_eq]
theorem putL_sorted {x : Pr} {l : List Pr} (s : Sorted l) : Sorted (putL x l) := by
  by_cases h : wrongP x = 0
  · rw [putL_good h]; exact ins_sorted x s
  · simpa [putL, h] using s
theorem putL_goodL {x : Pr} {l : List Pr} (g : GoodL l) : GoodL (putL x l) := by
  by_cases h : wrongP x = 0
  · rw [putL_good h]; exact fun y hy => (ins_mem hy).elim (fun e => e ▸ h) (g y)
  · simpa [putL, h] using g

/-- all pairs of a list are put -/
def putsL (t l : List Pr) : List Pr := l.foldl (fun t x => putL x t) t
theorem putsL_sorted {l : List Pr} : ∀ {t}, Sorted t → Sorted (putsL t l) := by
  induction l with
  | nil => exact fun s => s
  | cons x l ih => exact fun s => ih (putL_sorted s)
theorem putsL_good {l : List Pr} : ∀ {t}, GoodL t → GoodL (putsL t l) := by
  induction l with
  | nil => exact fun s => s
  | cons x l ih => exact fun s => ih (putL_goodL s)
theorem putsL_len {l : List Pr} : ∀ {t}, (putsL t l).length ≤ t.length + l.length := by
  induction l with
  | nil => exact fun {t} => by simp [putsL]
  | cons x l ih => intro t; have := ih (t := putL x t); have := putL_len x t; simp [putsL] at *; omega
theorem putsL_find {l : List Pr} (k : ByteArray) : ∀ {t}, Sorted t → Sorted l → GoodL l → findK k (putsL t l) = (findK k l).or (findK k t) := by
  induction l with
  | nil => intro t _ _ _; simp [putsL, findK_nil]
  | cons x l ih =>
    intro t st sl g
    have sl' := List.pairwise_cons.1 sl
    show findK k (putsL (putL x t) l) = _
    rw [ih (putL_sorted st) sl'.2 (fun y hy => g y (by simp [hy])), putL_good (g x (by simp)), ins_find x k st, findK_cons]
    by_cases h : x.key = k
    · subst h
      rw [findK_none fun y hy e => lt_ne (sl'.1 y hy) e.symm]
      simp
    · simp [h]

/-- one list of pairs in order -/
def ordL (l : List Pr) : List Pr := putsL [] l
theorem ordL_sorted (l : List Pr) : Sorted (ordL l) := putsL_sorted List.Pairwise.nil
theorem ordL_good (l : List Pr) : GoodL (ordL l) := putsL_good (fun _ h => by cases h)
theorem ordL_len (l : List Pr) : (ordL l).length ≤ l.length := by have := putsL_len (l := l) (t := []); unfold ordL; simpa using this

/-- the document's answer -/
def refAllL (ls : List (List Pr)) : List Pr := ls.reverse.foldl putsL []
theorem refAllL_cons (l : List Pr) (ls : List (List Pr)) : refAllL (l :: ls) = putsL (refAllL ls) l := by simp [refAllL, List.foldl_append]
theorem refAllL_sorted : ∀ ls, Sorted (refAllL ls)
  | [] => List.Pairwise.nil
  | l :: ls => by rw [refAllL_cons]; exact putsL_sorted (refAllL_sorted ls)

structure OkL (ls : List (List Pr)) : Prop where
  sorted : ∀ l ∈ ls, Sorted l
  good : ∀ l ∈ ls, GoodL l

def findLs (k : ByteArray) (ls : List (List Pr)) : Option Pr := ls.findSome? (findK k)
theorem findLs_cons (k : ByteArray) (l : List Pr) (ls : List (List Pr)) : findLs k (l :: ls) = (findK k l).or (findLs k ls) := by
  unfold findLs; rw [List.findSome?_cons]; cases findK k l <;> rfl

theorem refAllL_find (k : ByteArray) : ∀ {ls}, OkL ls → findK k (refAllL ls) = findLs k ls
  | [], _ => rfl
  | l :: ls, o => by
    rw [refAllL_cons, putsL_find k (refAllL_sorted ls) (o.sorted l (by simp)) (o.good l (by simp)), refAllL_find k ⟨fun m hm => o.sorted m (by simp [hm]), fun m hm => o.good m (by simp [hm])⟩, findLs_cons]

/-! ### merging -/
theorem dropW_sub (p : Pr) (l : List Pr) : (dropW p l).Sublist l := List.dropWhile_sublist _
theorem upto_false {p q : Pr} (h : upto p q = false) : sLt p.key q.key = true := by
  unfold upto at h
  rw [sEq_iff] at h
  simp at h
  cases h2 : sLt p.key q.key
  · exact absurd (sLt_tri h.1 h2) h.2
  · rfl
theorem upto_true {p q : Pr} (h : upto p q = true) : sLt p.key q.key = false := by
  unfold upto at h
  rw [sEq_iff] at h
  simp at h
  rcases h with h | h
  · exact sLt_asymm h
  · rw [h]; exact sLt_irrefl _
theorem dropW_mem {p q : Pr} : ∀ {l : List Pr}, Sorted l → q ∈ dropW p l → sLt p.key q.key = true
  | [], _, h => by cases h
  | y :: l, s, h => by
    have s' := List.pairwise_cons.1 s
    unfold dropW at h
    rw [List.dropWhile_cons] at h
    split at h
    · exact dropW_mem s'.2 h
    · rename_i hy
      have h1 := upto_false (p := p) (q := y) (by simpa using hy)
      rcases List.mem_cons.1 h with rfl | h
      · exact h1
      · exact sLt_trans h1 (s'.1 q h)
theorem dropW_find {p : Pr} {k : ByteArray} (hk : sLt p.key k = true) : ∀ {l : List Pr}, findK k (dropW p l) = findK k l
  | [] => rfl
  | y :: l => by
    unfold dropW
    rw [List.dropWhile_cons]
    split
    · rename_i hy
      have h1 := upto_true hy
      rw [findK_cons, if_neg (by rintro rfl; rw [hk] at h1; cases h1)]
      exact dropW_find hk
    · rfl

theorem Merges.ok {ls : List (List Pr)} {out : List Pr} (m : Merges ls out) : (∀ l ∈ ls, Sorted l) → Sorted out ∧ ∀ k, findK k out = findLs k ls := by
  induction m with
  | done h =>
    rename_i ls
    intro _
    refine ⟨List.Pairwise.nil, fun k => ?_⟩
    have : ∀ ls : List (List Pr), (∀ l ∈ ls, l = []) → findLs k ls = none := fun ls h => by
      unfold findLs
      rw [List.findSome?_eq_none_iff]
      intro l hl; rw [h l hl]; rfl
    rw [this ls h]; rfl
  | @step ls k p t out hk hmin hm ih =>
    intro hs
    have hs2 : ∀ l ∈ ls.map (dropW p), Sorted l := fun l hl => by
      obtain ⟨l', hl', rfl⟩ := List.mem_map.1 hl
      exact (hs l' hl').sublist (dropW_sub p l')
    obtain ⟨so, fo⟩ := ih hs2
    have hlow : ∀ q ∈ out, sLt p.key q.key = true := fun q hq => by
      have h1 := so.find hq
      rw [fo] at h1
      unfold findLs at h1
      obtain ⟨l, hl, h2⟩ := List.exists_of_findSome?_eq_some h1
      obtain ⟨l', hl', rfl⟩ := List.mem_map.1 hl
      exact dropW_mem (hs l' hl') (findK_key h2).2
    refine ⟨List.pairwise_cons.2 ⟨hlow, so⟩, fun c => ?_⟩
    -- nothing lies below p
    have hbel : ∀ l ∈ ls, ∀ q ∈ l, sLt q.key p.key = false := fun l hl q hq => by
      obtain ⟨j, hj, e⟩ := List.getElem_of_mem hl
      cases l with
      | nil => cases hq
      | cons y u =>
        have h1 := (hmin j y u (by rw [List.getElem?_eq_getElem hj, e])).1
        have s' := List.pairwise_cons.1 (hs _ hl)
        rcases List.mem_cons.1 hq with rfl | hq
        · exact h1
        · cases h2 : sLt q.key p.key
          · rfl
          · have := sLt_trans (s'.1 q hq) h2; rw [this] at h1; cases h1
    rw [findK_cons]
    by_cases hc : p.key = c
    · subst hc
      simp only [if_true]
      -- the first list that has it is k's
      have : ∀ (ls : List (List Pr)) (k : Nat), ls[k]? = some (p :: t) → (∀ j q u, ls[j]? = some (q :: u) → j < k → sLt p.key q.key = true) → (∀ l ∈ ls, Sorted l) → findLs p.key ls = some p := by
        intro ls
        induction ls with
        | nil => intro k h; simp at h
        | cons l ls ih =>
          intro k h hm hs
          rw [findLs_cons]
          cases k with
          | zero => simp at h; subst h; rw [findK_cons, if_pos rfl]; rfl
          | succ k =>
            have hn : findK p.key l = none := by
              cases l with
              | nil => rfl
              | cons y u =>
                have h1 := hm 0 y u rfl (by omega)
                have s' := List.pairwise_cons.1 (hs _ (by simp : (y :: u) ∈ (y :: u) :: ls))
                refine findK_none fun x hx e => ?_
                rcases List.mem_cons.1 hx with rfl | hx
                · rw [e, sLt_irrefl] at h1; cases h1
                · have := sLt_trans h1 (s'.1 x hx); rw [e, sLt_irrefl] at this; cases this
            rw [hn, Option.none_or]
            exact ih k (by simpa using h) (fun j q u hj hjk => hm (j + 1) q u (by simpa using hj) (by omega)) (fun l hl => hs l (by simp [hl]))
      rw [this ls k hk (fun j q u hj => (hmin j q u hj).2) hs]
    · rw [if_neg hc, fo]
      unfold findLs
      cases h2 : sLt p.key c
      · -- below p there is nothing
        have h3 : sLt c p.key = true := by
          cases h3 : sLt c p.key
          · exact absurd (sLt_tri h2 h3) hc
          · rfl
        have e1 : (ls.map (dropW p)).findSome? (findK c) = none := by
          rw [List.findSome?_eq_none_iff]
          intro l hl
          obtain ⟨l', hl', rfl⟩ := List.mem_map.1 hl
          refine findK_none fun x hx e => ?_
          have := dropW_mem (hs l' hl') hx
          rw [e, h2] at this; cases this
        have e2 : ls.findSome? (findK c) = none := by
          rw [List.findSome?_eq_none_iff]
          intro l hl
          refine findK_none fun x hx e => ?_
          have := hbel l hl x hx
          rw [e, h3] at this; cases this
        rw [e1, e2]
      · have : ∀ ls : List (List Pr), (ls.map (dropW p)).findSome? (findK c) = ls.findSome? (findK c) := fun ls => by
          induction ls with
          | nil => rfl
          | cons l ls ih => rw [List.map_cons, List.findSome?_cons, List.findSome?_cons, dropW_find h2, ih]
        rw [this]

/-! ### there is a merge -/
theorem best_exists : ∀ (ls : List (List Pr)), (∀ l ∈ ls, l = []) ∨ ∃ (k : Nat) (p : Pr) (t : List Pr), ls[k]? = some (p :: t) ∧ ∀ (j : Nat) (q : Pr) (u : List Pr), ls[j]? = some (q :: u) → sLt q.key p.key = false ∧ (j < k → sLt p.key q.key = true)
  | [] => .inl fun l h => by cases h
  | l :: ls => by
    cases l with
    | nil =>
      rcases best_exists ls with h | ⟨k, p, t, hk, hm⟩
      · refine .inl fun l hl => ?_
        rcases List.mem_cons.1 hl with rfl | hl
        · rfl
        · exact h l hl
      · refine .inr ⟨k + 1, p, t, by simpa using hk, fun j q u hj => ?_⟩
        cases j with
        | zero => simp at hj
        | succ j => have := hm j q u (by simpa using hj); exact ⟨this.1, fun h => this.2 (by omega)⟩
    | cons y u =>
      rcases best_exists ls with h | ⟨k, p, t, hk, hm⟩
      · refine .inr ⟨0, y, u, rfl, fun j q w hj => ⟨?_, fun h => by omega⟩⟩
        cases j with
        | zero => simp at hj; rw [hj.1]; exact sLt_irrefl _
        | succ j => have := h _ (List.mem_of_getElem? (by simpa using hj)); cases this
      · cases hlt : sLt p.key y.key
        · refine .inr ⟨0, y, u, rfl, fun j q w hj => ⟨?_, fun h => by omega⟩⟩
          cases j with
          | zero => simp at hj; rw [hj.1]; exact sLt_irrefl _
          | succ j => exact sLe_trans hlt (hm j q w (by simpa using hj)).1
        · refine .inr ⟨k + 1, p, t, by simpa using hk, fun j q w hj => ?_⟩
          cases j with
          | zero => simp at hj; rw [← hj.1]; exact ⟨sLt_asymm hlt, fun _ => hlt⟩
          | succ j => have := hm j q w (by simpa using hj); exact ⟨this.1, fun h => this.2 (by omega)⟩

def total (ls : List (List Pr)) : Nat := (ls.map List.length).sum
theorem total_map_le (p : Pr) : ∀ ls, total (ls.map (dropW p)) ≤ total ls
  | [] => Nat.le_refl _
  | l :: ls => by
    have := total_map_le p ls
    have := (dropW_sub p l).length_le
    simp [total] at *; omega
theorem total_map_lt {p : Pr} {t : List Pr} : ∀ {ls : List (List Pr)} {k : Nat}, ls[k]? = some (p :: t) → total (ls.map (dropW p)) < total ls
  | [], k, h => by simp at h
  | l :: ls, 0, h => by
    simp at h; subst h
    have h1 := total_map_le p ls
    have h2 := (dropW_sub p t).length_le
    have h3 : dropW p (p :: t) = dropW p t := by simp [dropW, upto, sEq_iff]
    simp only [total, List.map_cons, List.sum_cons, h3, List.length_cons] at *
    omega
  | l :: ls, k + 1, h => by
    have h1 := total_map_lt (p := p) (t := t) (ls := ls) (k := k) (by simpa using h)
    have h2 := (dropW_sub p l).length_le
    simp only [total, List.map_cons, List.sum_cons] at *
    omega

theorem merges_exists (ls : List (List Pr)) : ∃ out, Merges ls out ∧ out.length ≤ total ls := by
  generalize hn : total ls = n
  induction n using Nat.strongRecOn generalizing ls with
  | _ n ih =>
    rcases best_exists ls with h | ⟨k, p, t, hk, hm⟩
    · exact ⟨[], .done h, by simp⟩
    · have hlt := total_map_lt hk
      obtain ⟨out, h1, h2⟩ := ih _ (by omega) (ls.map (dropW p)) rfl
      exact ⟨p :: out, .step hk hm h1, by simp; omega⟩

theorem merges_ref {ls : List (List Pr)} {out : List Pr} (m : Merges ls out) (o : OkL ls) : out = refAllL ls :=
  (m.ok o.sorted).1.ext (refAllL_sorted ls) fun k => by rw [(m.ok o.sorted).2 k, refAllL_find k o]
end Go.Lf.G
