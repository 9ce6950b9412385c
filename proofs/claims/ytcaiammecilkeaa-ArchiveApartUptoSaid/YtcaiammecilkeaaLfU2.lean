/-
  Plain law: a box of files (chapter 3).
-/
import Derived.Test.YtcaiammecilkeaaLfU1
set_option maxRecDepth 100000
namespace Go.Lf
open Go

abbrev bs0 : ByteArray := ⟨#[]⟩

theorem sz0 : ByteArray.size ⟨#[]⟩ = 0 := rfl

structure Fi where
  name : ByteArray
  firm : ByteArray
  soft : ByteArray
deriving DecidableEq

def FiE : Enc Fi where
  enc x := [.string x.name, .string x.firm, .string x.soft]
  w := 3
  len _ := rfl
  pos := by omega
  one x v hv := by simp at hv; rcases hv with rfl | rfl | rfl <;> rfl
theorem Cells.fi {h : Heap} {a : Addr} {x : Fi} (c : Cells h a (FiE.enc x)) : hget h a = some (.string x.name) ∧ hget h (a.add 1) = some (.string x.firm) ∧ hget h (a.add 2) = some (.string x.soft) := by
  have h0 := c 0 _ rfl
  rw [add_zero] at h0
  exact ⟨h0, c 1 _ rfl, c 2 _ rfl⟩

def SortedF (l : List Fi) : Prop := l.Pairwise fun a b => sLt a.name b.name = true
def findF (k : ByteArray) (l : List Fi) : Option Fi := l.find? fun f => decide (f.name = k)
def updF (k : ByteArray) (g : Fi → Fi) (l : List Fi) : List Fi := l.map fun f => if f.name = k then g f else f
def delF (k : ByteArray) (l : List Fi) : List Fi := l.filter fun f => !decide (f.name = k)
def insF (x : Fi) : List Fi → List Fi
  | [] => [x]
  | q :: l => if sLt q.name x.name then q :: insF x l else x :: q :: l
def atF (k : ByteArray) (l : List Fi) : Nat := (l.takeWhile fun f => sLt f.name k).length
def wtF (l : List Fi) : Nat := (l.map fun f => f.firm.size + f.soft.size + 1).sum

theorem findF_cons (k : ByteArray) (x : Fi) (l : List Fi) : findF k (x :: l) = if x.name = k then some x else findF k l := by
  unfold findF; rw [List.find?_cons]; by_cases h : x.name = k <;> simp [h]
theorem findF_some {k : ByteArray} {l : List Fi} {x : Fi} (h : findF k l = some x) : x.name = k ∧ x ∈ l := by
  unfold findF at h
  exact ⟨by simpa using List.find?_some h, List.mem_of_find?_eq_some h⟩
theorem findF_none {k : ByteArray} {l : List Fi} (h : findF k l = none) : ∀ x ∈ l, x.name ≠ k := by
  unfold findF at h; rw [List.find?_eq_none] at h; simpa using h
theorem findF_none' {k : ByteArray} {l : List Fi} (h : ∀ x ∈ l, x.name ≠ k) : findF k l = none := by
  unfold findF; rw [List.find?_eq_none]; simpa using h
theorem SortedF.find {l : List Fi} (s : SortedF l) {x : Fi} (hx : x ∈ l) : findF x.name l = some x := by
  induction l with
  | nil => cases hx
  | cons y l ih =>
    rw [findF_cons]
    have s' := List.pairwise_cons.1 s
    rcases List.mem_cons.1 hx with rfl | hx
    · simp
    · rw [if_neg (lt_ne (s'.1 x hx))]; exact ih s'.2 hx

theorem insF_perm (x : Fi) : ∀ l, (insF x l).Perm (x :: l)
  | [] => List.Perm.refl _
  | q :: l => by
    unfold insF
    split
    · exact ((insF_perm x l).cons q).trans (List.Perm.swap x q l)
    · exact List.Perm.refl _
theorem insF_sorted {x : Fi} : ∀ {l : List Fi}, SortedF l → (∀ y ∈ l, y.name ≠ x.name) → SortedF (insF x l)
  | [], _, _ => List.pairwise_singleton _ _
  | q :: l, s, hn => by
    have s' := List.pairwise_cons.1 s
    unfold insF
    split
    · rename_i h
      refine List.pairwise_cons.2 ⟨fun y hy => ?_, insF_sorted s'.2 fun y hy => hn y (List.mem_cons_of_mem _ hy)⟩
      rcases List.mem_cons.1 ((insF_perm x l).subset hy) with rfl | hy
      · exact h
      · exact s'.1 y hy
    · rename_i h
      have hlt : sLt x.name q.name = true := by
        cases h2 : sLt x.name q.name
        · exact absurd (sLt_tri (by simpa using h) h2) (hn q List.mem_cons_self)
        · rfl
      refine List.pairwise_cons.2 ⟨fun y hy => ?_, s⟩
      rcases List.mem_cons.1 hy with rfl | hy
      · exact hlt
      · exact sLt_trans hlt (s'.1 y hy)
theorem updF_names {k : ByteArray} {g : Fi → Fi} (hg : ∀ f, (g f).name = f.name) (l : List Fi) : (updF k g l).map (·.name) = l.map (·.name) := by
  unfold updF
  rw [List.map_map]
  refine List.map_congr_left fun f _ => ?_
  simp only [Function.comp]
  split <;> simp [hg]
theorem sortedF_iff {l : List Fi} : SortedF l ↔ SortedS (l.map (·.name)) := by unfold SortedF SortedS; rw [List.pairwise_map]
theorem updF_sorted {k : ByteArray} {g : Fi → Fi} (hg : ∀ f, (g f).name = f.name) {l : List Fi} (s : SortedF l) : SortedF (updF k g l) := by
  rw [sortedF_iff, updF_names hg]; exact sortedF_iff.1 s
theorem delF_sorted {k : ByteArray} {l : List Fi} (s : SortedF l) : SortedF (delF k l) := s.sublist List.filter_sublist
theorem findF_upd {k c : ByteArray} {g : Fi → Fi} (hg : ∀ f, (g f).name = f.name) : ∀ l : List Fi, findF c (updF k g l) = (findF c l).map fun f => if f.name = k then g f else f
  | [] => rfl
  | x :: l => by
    show findF c ((if x.name = k then g x else x) :: updF k g l) = _
    rw [findF_cons, findF_cons, findF_upd hg l]
    have : (if x.name = k then g x else x).name = x.name := by split <;> simp [hg]
    rw [this]
    by_cases h : x.name = c <;> simp [h]
theorem findF_del {k c : ByteArray} : ∀ l : List Fi, findF c (delF k l) = if c = k then none else findF c l
  | [] => by simp [delF, findF]
  | x :: l => by
    have ih := findF_del (k := k) (c := c) l
    unfold delF at ih ⊢
    rw [List.filter_cons, findF_cons]
    by_cases h1 : x.name = k
    · simp only [h1, decide_true, Bool.not_true, Bool.false_eq_true, if_false]
      rw [ih]
      by_cases h2 : c = k
      · simp [h2]
      · simp [h2, Ne.symm h2]
    · simp only [h1, decide_false, Bool.not_false, if_true]
      rw [findF_cons, ih]
      by_cases h2 : c = k
      · subst h2; simp [h1]
      · simp [h2]
theorem findF_ins {x : Fi} {c : ByteArray} : ∀ {l : List Fi}, (∀ y ∈ l, y.name ≠ x.name) → findF c (insF x l) = if x.name = c then some x else findF c l
  | [], _ => by show findF c [x] = _; rw [findF_cons]
  | q :: l, hn => by
    unfold insF
    split
    · rw [findF_cons, findF_ins fun y hy => hn y (List.mem_cons_of_mem _ hy), findF_cons]
      by_cases h1 : q.name = c
      · simp [h1]
        intro h2
        exact absurd (h1.trans h2.symm) (hn q List.mem_cons_self)
      · simp [h1]
    · rw [findF_cons]

theorem wtF_cons (x : Fi) (l : List Fi) : wtF (x :: l) = x.firm.size + x.soft.size + 1 + wtF l := by simp [wtF]
theorem wtF_perm {l m : List Fi} (h : l.Perm m) : wtF l = wtF m := (h.map _).sum_nat
theorem wtF_ins (x : Fi) (l : List Fi) : wtF (insF x l) = x.firm.size + x.soft.size + 1 + wtF l := by rw [wtF_perm (insF_perm x l), wtF_cons]
theorem wtF_len : ∀ l : List Fi, l.length ≤ wtF l
  | [] => by simp [wtF]
  | x :: l => by rw [wtF_cons, List.length_cons]; have := wtF_len l; omega
theorem wtF_mem {x : Fi} : ∀ {l : List Fi}, x ∈ l → x.firm.size + x.soft.size ≤ wtF l
  | [], h => by cases h
  | y :: l, h => by
    rw [wtF_cons]
    rcases List.mem_cons.1 h with rfl | h
    · omega
    · have := wtF_mem h; omega
theorem wtF_del {k : ByteArray} : ∀ l : List Fi, wtF (delF k l) ≤ wtF l
  | [] => by simp [delF, wtF]
  | x :: l => by
    have := wtF_del (k := k) l
    unfold delF at this ⊢
    rw [List.filter_cons]
    split
    · rw [wtF_cons, wtF_cons]; omega
    · rw [wtF_cons]; omega
/-- a change that adds d at most to the file of a name -/
theorem wtF_upd {k : ByteArray} {g : Fi → Fi} {d : Nat} (hg : ∀ f, (g f).firm.size + (g f).soft.size ≤ f.firm.size + f.soft.size + d) : ∀ {l : List Fi}, SortedF l → wtF (updF k g l) ≤ wtF l + d
  | [], _ => by simp [updF, wtF]
  | x :: l, s => by
    have s' := List.pairwise_cons.1 s
    show wtF ((if x.name = k then g x else x) :: updF k g l) ≤ _
    rw [wtF_cons, wtF_cons]
    split
    · rename_i h
      have : updF k g l = l := by
        unfold updF
        rw [List.map_congr_left (g := id) fun y hy => ?_, List.map_id]
        have := lt_ne (s'.1 y hy)
        rw [if_neg (fun e => this (h.trans e.symm))]; rfl
      rw [this]
      have := hg x
      omega
    · have := wtF_upd hg (k := k) s'.2
      omega

/-! ### places in a list -/
theorem atF_le (k : ByteArray) (l : List Fi) : atF k l ≤ l.length := by unfold atF; exact (List.takeWhile_sublist _).length_le
theorem atF_cons (k : ByteArray) (x : Fi) (l : List Fi) : atF k (x :: l) = if sLt x.name k then atF k l + 1 else 0 := by
  unfold atF; rw [List.takeWhile_cons]; split <;> simp
def thereF (k : ByteArray) (l : List Fi) : Bool := match l[atF k l]? with | some f => decide (f.name = k) | none => false
theorem atF_lt {k : ByteArray} : ∀ {l : List Fi} {i : Nat} {f : Fi}, i < atF k l → l[i]? = some f → sLt f.name k = true
  | [], i, f, h, _ => by simp [atF] at h
  | x :: l, i, f, h, hi => by
    rw [atF_cons] at h
    split at h
    · rename_i hx
      cases i with
      | zero => simp at hi; subst hi; exact hx
      | succ i => exact atF_lt (l := l) (i := i) (by omega) (by simpa using hi)
    · omega
theorem atF_ge {k : ByteArray} : ∀ {l : List Fi} {f : Fi}, l[atF k l]? = some f → sLt f.name k = false
  | [], f, h => by simp at h
  | x :: l, f, h => by
    rw [atF_cons] at h
    split at h
    · exact atF_ge (by simpa using h)
    · rename_i hx; simp at h; subst h; simpa using hx
theorem atF_find {k : ByteArray} : ∀ {l : List Fi}, SortedF l → (findF k l = none ∧ thereF k l = false) ∨ ∃ f, findF k l = some f ∧ thereF k l = true ∧ l[atF k l]? = some f
  | [], _ => .inl ⟨rfl, rfl⟩
  | x :: l, s => by
    have s' := List.pairwise_cons.1 s
    have e : thereF k (x :: l) = if sLt x.name k then thereF k l else decide (x.name = k) := by
      unfold thereF; rw [atF_cons]; by_cases h : sLt x.name k = true <;> simp [h]
    rw [findF_cons, e, atF_cons]
    by_cases h : sLt x.name k = true
    · rw [if_neg (lt_ne h), if_pos h, if_pos h]
      rcases atF_find (k := k) s'.2 with h1 | ⟨f, h1, h2, h3⟩
      · exact .inl h1
      · exact .inr ⟨f, h1, h2, by simpa using h3⟩
    · rw [if_neg h, if_neg h]
      by_cases hk : x.name = k
      · exact .inr ⟨x, by simp [hk], by simp [hk], rfl⟩
      · rw [if_neg hk]
        refine .inl ⟨findF_none' fun y hy e => ?_, by simpa using hk⟩
        have := s'.1 y hy
        rw [e] at this
        exact h this
theorem ins_at {x : Fi} : ∀ (l : List Fi), (l.take (atF x.name l) ++ [x]) ++ l.drop (atF x.name l) = insF x l
  | [] => rfl
  | q :: l => by
    unfold insF
    rw [atF_cons]
    split
    · rw [List.take_succ_cons, List.drop_succ_cons, List.cons_append, List.cons_append, ins_at l]
    · rfl
theorem upd_at {k : ByteArray} {g : Fi → Fi} : ∀ {l : List Fi} {f : Fi}, SortedF l → l[atF k l]? = some f → f.name = k → l.set (atF k l) (g f) = updF k g l
  | [], _, _, h, _ => by simp at h
  | x :: l, f, s, h, hf => by
    have s' := List.pairwise_cons.1 s
    show _ = (if x.name = k then g x else x) :: updF k g l
    rw [atF_cons] at h ⊢
    split
    · rename_i hx
      rw [if_pos hx] at h
      rw [List.set_cons_succ, upd_at s'.2 (by simpa using h) hf, if_neg (lt_ne hx)]
    · rename_i hx
      rw [if_neg hx] at h
      simp at h
      subst h
      rw [List.set_cons_zero, if_pos hf]
      congr 1
      refine ((List.map_congr_left (g := id) fun y hy => ?_).trans (List.map_id _)).symm
      rw [if_neg (fun e => lt_ne (s'.1 y hy) (hf.trans e.symm))]; rfl
theorem del_at {k : ByteArray} : ∀ {l : List Fi} {f : Fi}, SortedF l → l[atF k l]? = some f → f.name = k → l.take (atF k l) ++ l.drop (atF k l + 1) = delF k l
  | [], _, _, h, _ => by simp at h
  | x :: l, f, s, h, hf => by
    have s' := List.pairwise_cons.1 s
    unfold delF
    rw [List.filter_cons]
    rw [atF_cons] at h ⊢
    split at h
    · rename_i hx
      have := lt_ne hx
      rw [if_pos hx]
      simp only [this, decide_false, Bool.not_false, if_true]
      rw [List.take_succ_cons, List.drop_succ_cons, List.cons_append, del_at s'.2 (by simpa using h) hf]
      rfl
    · rename_i hx
      rw [if_neg hx]
      simp at h
      subst h
      simp only [hf, decide_true, Bool.not_true, Bool.false_eq_true, if_false, List.take_zero, List.nil_append, List.drop_succ_cons, Nat.zero_add, List.drop_zero]
      refine (List.filter_eq_self.2 fun y hy => ?_).symm
      have := lt_ne (s'.1 y hy)
      simp only [Bool.not_eq_true', decide_eq_false_iff_not]
      exact fun e => this (hf.trans e.symm)

/-! ### a box -/
structure Bx where
  files : List Fi
  fuel : Int
  down : Bool

def newB : Bx := ⟨[], -1, false⟩
def badName (n : ByteArray) : Bool := decide (n = bs0) || decide (n.size > 32)
def tickB (m : Bx) : Bx := if m.fuel > 0 then { m with fuel := m.fuel - 1 } else m
def offB (m : Bx) : Bx := { m with down := true }
def haveF (name : ByteArray) (l : List Fi) : List Fi := if (findF name l).isSome then l else insF ⟨name, bs0, bs0⟩ l
def addF (data : ByteArray) (f : Fi) : Fi := { f with soft := f.soft ++ data }
def firmF (f : Fi) : Fi := ⟨f.name, f.firm ++ f.soft, bs0⟩
def appendB (m : Bx) (name data : ByteArray) : Int × Bx :=
  if m.down then (30, m) else if badName name then (1, m) else if m.fuel = 0 then (30, offB m) else (0, { tickB m with files := updF name (addF data) (haveF name m.files) })
def syncB (m : Bx) (name : ByteArray) : Int × Bx :=
  if m.down then (30, m) else if (findF name m.files).isNone then (31, m) else if m.fuel = 0 then (30, offB m) else (0, { tickB m with files := updF name firmF m.files })
def deleteB (m : Bx) (name : ByteArray) : Int × Bx :=
  if m.down then (30, m) else if (findF name m.files).isNone then (31, m) else if m.fuel = 0 then (30, offB m) else (0, { tickB m with files := delF name m.files })
def readB (m : Bx) (name : ByteArray) : ByteArray × Int :=
  if m.down then (bs0, 30) else match findF name m.files with | none => (bs0, 31) | some f => (f.firm ++ f.soft, 0)
def fuelB (m : Bx) (n : Int) : Bx := { m with fuel := if (-1 : Int) > n then -1 else n }
def keptF (keep : List Int) (k : Nat) (f : Fi) : ByteArray :=
  if f.soft = bs0 then f.firm else match keep[k]? with | some n => f.firm ++ f.soft.extract 0 (min n.toNat f.soft.size) | none => f.firm
def nextF (k : Nat) (f : Fi) : Nat := if f.soft = bs0 then k else k + 1
def oneF (keep : List Int) (k : Nat) (f : Fi) : List Fi := if keptF keep k f = bs0 then [] else [⟨f.name, keptF keep k f, bs0⟩]
def crashF (keep : List Int) : Nat → List Fi → List Fi
  | _, [] => []
  | k, f :: l => oneF keep k f ++ crashF keep (nextF k f) l
def crashB (m : Bx) (keep : List Int) : Bx := ⟨crashF keep 0 m.files, -1, false⟩

structure GoodB (m : Bx) : Prop where
  sorted : SortedF m.files
  names : ∀ f ∈ m.files, f.name.size ≤ 32
  lo : -1 ≤ m.fuel
  hi : m.fuel ≤ 9223372036854775807
  wt : wtF m.files ≤ 1099511627776

theorem size_app (a b : ByteArray) : (a ++ b).size = a.size + b.size := ByteArray.size_append
theorem app_nil (a : ByteArray) : a ++ bs0 = a := by simp [ByteArray.ext_iff, bs0]
theorem nil_app (a : ByteArray) : bs0 ++ a = a := by simp [ByteArray.ext_iff, bs0]

theorem goodB_new : GoodB newB := ⟨List.Pairwise.nil, by simp [newB], by simp [newB], by simp [newB], by simp [newB, wtF]⟩
theorem GoodB.tick {m : Bx} (g : GoodB m) (l : List Fi) (h1 : SortedF l) (h2 : ∀ f ∈ l, f.name.size ≤ 32) (h3 : wtF l ≤ 1099511627776) : GoodB { tickB m with files := l } := by
  have := g.lo; have := g.hi
  refine ⟨h1, h2, ?_, ?_, h3⟩
  · show -1 ≤ (tickB m).fuel
    unfold tickB; split <;> (try simp only []) <;> omega
  · show (tickB m).fuel ≤ _
    unfold tickB; split <;> (try simp only []) <;> omega
theorem GoodB.off {m : Bx} (g : GoodB m) : GoodB (offB m) := ⟨g.sorted, g.names, g.lo, g.hi, g.wt⟩
theorem haveF_spec {name : ByteArray} {l : List Fi} (s : SortedF l) : SortedF (haveF name l) ∧ wtF (haveF name l) ≤ wtF l + 1 ∧ (∀ f ∈ haveF name l, f ∈ l ∨ f.name = name) := by
  unfold haveF
  split
  · exact ⟨s, by omega, fun f hf => .inl hf⟩
  · rename_i h
    have hn := findF_none (by simpa using h)
    refine ⟨insF_sorted s hn, by rw [wtF_ins]; simp [sz0]; omega, fun f hf => ?_⟩
    rcases List.mem_cons.1 ((insF_perm _ l).subset hf) with rfl | hf
    · exact .inr rfl
    · exact .inl hf
theorem mem_updF {k : ByteArray} {g : Fi → Fi} (hg : ∀ f, (g f).name = f.name) {l : List Fi} {f : Fi} (hf : f ∈ updF k g l) : ∃ f' ∈ l, f'.name = f.name := by
  unfold updF at hf
  obtain ⟨f', h1, rfl⟩ := List.mem_map.1 hf
  exact ⟨f', h1, by split <;> simp [hg]⟩
theorem GoodB.append {m : Bx} (g : GoodB m) {name data : ByteArray} (hw : wtF m.files + data.size + 1 ≤ 1099511627776) : GoodB (appendB m name data).2 := by
  unfold appendB
  split
  · exact g
  · split
    · exact g
    · rename_i hb
      split
      · exact g.off
      · obtain ⟨h1, h2, h3⟩ := haveF_spec (name := name) g.sorted
        refine g.tick _ (updF_sorted (k := name) (g := addF data) (fun _ => rfl) h1) (fun f hf => ?_) ?_
        · obtain ⟨f', h4, h5⟩ := mem_updF (g := addF data) (fun _ => rfl) hf
          rw [← h5]
          rcases h3 f' h4 with h | h
          · exact g.names f' h
          · rw [h]; simp [badName] at hb; omega
        · have := wtF_upd (k := name) (g := addF data) (d := data.size) (fun f => by simp [addF]; omega) h1
          omega
theorem GoodB.sync {m : Bx} (g : GoodB m) {name : ByteArray} : GoodB (syncB m name).2 := by
  unfold syncB
  split
  · exact g
  · split
    · exact g
    · split
      · exact g.off
      · refine g.tick _ (updF_sorted (k := name) (g := firmF) (fun _ => rfl) g.sorted) (fun f hf => ?_) ?_
        · obtain ⟨f', h4, h5⟩ := mem_updF (g := firmF) (fun _ => rfl) hf
          rw [← h5]; exact g.names f' h4
        · have := wtF_upd (k := name) (g := firmF) (d := 0) (fun f => by simp [firmF, sz0]) g.sorted
          have := g.wt; omega
theorem GoodB.delete {m : Bx} (g : GoodB m) {name : ByteArray} : GoodB (deleteB m name).2 := by
  unfold deleteB
  split
  · exact g
  · split
    · exact g
    · split
      · exact g.off
      · exact g.tick _ (delF_sorted g.sorted) (fun f hf => g.names f (List.mem_filter.1 hf).1) (Nat.le_trans (wtF_del _) g.wt)
theorem GoodB.fuel {m : Bx} (g : GoodB m) {n : Int} (hn : n ≤ 9223372036854775807) : GoodB (fuelB m n) := by
  refine ⟨g.sorted, g.names, ?_, ?_, g.wt⟩ <;> (simp only [fuelB]; split <;> omega)
theorem mem_crashF {keep : List Int} : ∀ {l : List Fi} {k : Nat} {f : Fi}, f ∈ crashF keep k l → ∃ f' ∈ l, f'.name = f.name
  | [], _, _, h => by simp [crashF] at h
  | x :: l, k, f, h => by
    unfold crashF at h
    rcases List.mem_append.1 h with h | h
    · unfold oneF at h
      split at h
      · cases h
      · simp at h; exact ⟨x, List.mem_cons_self, by rw [h]⟩
    · obtain ⟨f', h1, h2⟩ := mem_crashF h
      exact ⟨f', List.mem_cons_of_mem _ h1, h2⟩
theorem crashF_sorted {keep : List Int} : ∀ {l : List Fi} {k : Nat}, SortedF l → SortedF (crashF keep k l)
  | [], _, _ => List.Pairwise.nil
  | x :: l, k, s => by
    have s' := List.pairwise_cons.1 s
    unfold crashF
    refine List.pairwise_append.2 ⟨?_, crashF_sorted s'.2, ?_⟩
    · unfold oneF; split
      · exact List.Pairwise.nil
      · exact List.pairwise_singleton _ _
    · intro a ha b hb
      have : a.name = x.name := by
        unfold oneF at ha; split at ha
        · cases ha
        · simp at ha; rw [ha]
      obtain ⟨f', h1, h2⟩ := mem_crashF hb
      rw [this, ← h2]; exact s'.1 f' h1
theorem kept_size (keep : List Int) (k : Nat) (f : Fi) : (keptF keep k f).size ≤ f.firm.size + f.soft.size := by
  unfold keptF
  split
  · omega
  · split
    · rw [size_app, ByteArray.size_extract]; omega
    · omega
theorem crashF_wt {keep : List Int} : ∀ {l : List Fi} {k : Nat}, wtF (crashF keep k l) ≤ wtF l
  | [], _ => by simp [crashF]
  | x :: l, k => by
    unfold crashF
    have := crashF_wt (keep := keep) (l := l) (k := nextF k x)
    have := kept_size keep k x
    unfold oneF
    rw [wtF_cons]
    split
    · simp; omega
    · rw [List.singleton_append, wtF_cons]; simp [sz0]; omega
theorem GoodB.crash {m : Bx} (g : GoodB m) {keep : List Int} : GoodB (crashB m keep) :=
  ⟨crashF_sorted g.sorted, fun f hf => by obtain ⟨f', h1, h2⟩ := mem_crashF hf; rw [← h2]; exact g.names f' h1, by simp [crashB], by simp [crashB], Nat.le_trans crashF_wt g.wt⟩
theorem wt_append {m : Bx} (g : GoodB m) (name data : ByteArray) : wtF (appendB m name data).2.files ≤ wtF m.files + data.size + 1 := by
  unfold appendB
  split
  · simp; omega
  · split
    · simp; omega
    · split
      · simp [offB]; omega
      · obtain ⟨h1, h2, _⟩ := haveF_spec (name := name) g.sorted
        have := wtF_upd (k := name) (g := addF data) (d := data.size) (fun f => by simp [addF]; omega) h1
        simp; omega
theorem wt_sync {m : Bx} (g : GoodB m) (name : ByteArray) : wtF (syncB m name).2.files ≤ wtF m.files := by
  unfold syncB
  split
  · simp
  · split
    · simp
    · split
      · simp [offB]
      · have := wtF_upd (k := name) (g := firmF) (d := 0) (fun f => by simp [firmF, sz0]) g.sorted
        simpa using this
theorem wt_delete {m : Bx} (name : ByteArray) : wtF (deleteB m name).2.files ≤ wtF m.files := by
  unfold deleteB
  split
  · simp
  · split
    · simp
    · split
      · simp [offB]
      · exact wtF_del _
theorem wt_crash {m : Bx} {keep : List Int} : wtF (crashB m keep).files ≤ wtF m.files := crashF_wt
end Go.Lf
