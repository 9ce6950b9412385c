/-
 Plain law: a box of files (chapter 3).
-/
import Derived.Test.YteecdmkgblonnaaGreatDoorLfU1ToU9
import Derived.Test.YteecdmkgblonnaaGreatDoorLfG1
set_option linter.unusedVariables false
set_option linter.unusedSimpArgs false
set_option maxRecDepth 100000
namespace Go.Lf
open Go
abbrev bs0 : ByteArray := ⟨#[]⟩
theorem sz0 : ByteArray.size ⟨#[]⟩ = 0 := rfl
structure Fi where
 name : ByteArray
 firm : ByteArray
 soft : ByteArray
deriving DecidableEq
def SortedF (l : List Fi) : Prop := l.Pairwise fun a b => sLt a.name b.name = true
def findF (k : ByteArray) (l : List Fi) : Option Fi := l.find? fun f => decide (f.name = k)
def updF (k : ByteArray) (g : Fi → Fi) (l : List Fi) : List Fi := l.map fun f => if f.name = k then g f else f
def delF (k : ByteArray) (l : List Fi) : List Fi := l.filter fun f => !decide (f.name = k)
def insF (x : Fi) : List Fi → List Fi
 | [] => [x]
 | q :: l => if sLt q.name x.name then q :: insF x l else x :: q :: l
def wtF (l : List Fi) : Nat := (l.map fun f => f.firm.size + f.soft.size + 1).sum
theorem findF_cons (k : ByteArray) (x : Fi) (l : List Fi) : findF k (x :: l) = if x.name = k then some x else findF k l := by
 unfold findF; rw [List.find?_cons]; by_cases h : x.name = k <;> simp [h]
theorem findF_some {k : ByteArray} {l : List Fi} {x : Fi} (h : findF k l = some x) : x.name = k ∧ x ∈ l := by
 unfold findF at h
 exact ⟨by simpa using List.find?_some h, List.mem_of_find?_eq_some h⟩
theorem findF_none {k : ByteArray} {l : List Fi} (h : findF k l = none) : ∀ x ∈ l, x.name ≠ k := by
 unfold findF at h; rw [List.find?_eq_none] at h; simpa using h
theorem findF_none' {k : ByteArray} {l : List Fi} (h : ∀ x ∈ l, x.name ≠ k) : findF k l = none := by
 unfold findF; rw [List.find?_eq_none]; simpa using h
theorem SortedF.find {l : List Fi} (s : SortedF l) {x : Fi} (hx : x ∈ l) : findF x.name l = some x := by
 induction l with
 | nil => cases hx
 | cons y l ih =>
  rw [findF_cons]
  have s' := List.pairwise_cons.1 s
  rcases List.mem_cons.1 hx with rfl | hx
  ·simp
  ·rw [if_neg (lt_ne (s'.1 x hx))]; exact ih s'.2 hx
theorem insF_perm (x : Fi) : ∀ l, (insF x l).Perm (x :: l)
 | [] => List.Perm.refl _
 | q :: l => by
  unfold insF
  split
  ·exact ((insF_perm x l).cons q).trans (List.Perm.swap x q l)
  ·exact List.Perm.refl _
theorem insF_sorted {x : Fi} : ∀ {l : List Fi}, SortedF l → (∀ y ∈ l, y.name ≠ x.name) → SortedF (insF x l)
 | [], _, _ => List.pairwise_singleton _ _
 | q :: l, s, hn => by
  have s' := List.pairwise_cons.1 s
  unfold insF
  split
  ·rename_i h
   refine List.pairwise_cons.2 ⟨fun y hy => ?_, insF_sorted s'.2 fun y hy => hn y (List.mem_cons_of_mem _ hy)⟩
   rcases List.mem_cons.1 ((insF_perm x l).subset hy) with rfl | hy
   ·exact h
   ·exact s'.1 y hy
  ·rename_i h
   have hlt : sLt x.name q.name = true := by
    cases h2 : sLt x.name q.name
    ·exact absurd (sLt_tri (by simpa using h) h2) (hn q List.mem_cons_self)
    ·rfl
   refine List.pairwise_cons.2 ⟨fun y hy => ?_, s⟩
   rcases List.mem_cons.1 hy with rfl | hy
   ·exact hlt
   ·exact sLt_trans hlt (s'.1 y hy)
theorem updF_names {k : ByteArray} {g : Fi → Fi} (hg : ∀ f, (g f).name = f.name) (l : List Fi) : (updF k g l).map (·.name) = l.map (·.name) := by
 unfold updF
 rw [List.map_map]
 refine List.map_congr_left fun f _ => ?_
 simp only [Function.comp]
 split <;> simp [hg]
theorem sortedF_iff {l : List Fi} : SortedF l ↔ SortedS (l.map (·.name)) := by unfold SortedF SortedS; rw [List.pairwise_map]
theorem updF_sorted {k : ByteArray} {g : Fi → Fi} (hg : ∀ f, (g f).name = f.name) {l : List Fi} (s : SortedF l) : SortedF (updF k g l) := by
 rw [sortedF_iff, updF_names hg]; exact sortedF_iff.1 s
theorem delF_sorted {k : ByteArray} {l : List Fi} (s : SortedF l) : SortedF (delF k l) := s.sublist List.filter_sublist
theorem findF_upd {k c : ByteArray} {g : Fi → Fi} (hg : ∀ f, (g f).name = f.name) : ∀ l : List Fi, findF c (updF k g l) = (findF c l).map fun f => if f.name = k then g f else f
 | [] => rfl
 | x :: l => by
  show findF c ((if x.name = k then g x else x) :: updF k g l) = _
  rw [findF_cons, findF_cons, findF_upd hg l]
  have : (if x.name = k then g x else x).name = x.name := by split <;> simp [hg]
  rw [this]
  by_cases h : x.name = c <;> simp [h]
theorem findF_del {k c : ByteArray} : ∀ l : List Fi, findF c (delF k l) = if c = k then none else findF c l
 | [] => by simp [delF, findF]
 | x :: l => by
  have ih := findF_del (k := k) (c := c) l
  unfold delF at ih ⊢
  rw [List.filter_cons, findF_cons]
  by_cases h1 : x.name = k
  ·simp only [h1, decide_true, Bool.not_true, Bool.false_eq_true, if_false]
   rw [ih]
   by_cases h2 : c = k
   ·simp [h2]
   ·simp [h2, Ne.symm h2]
  ·simp only [h1, decide_false, Bool.not_false, if_true]
   rw [findF_cons, ih]
   by_cases h2 : c = k
   ·subst h2; simp [h1]
   ·simp [h2]
theorem findF_ins {x : Fi} {c : ByteArray} : ∀ {l : List Fi}, (∀ y ∈ l, y.name ≠ x.name) → findF c (insF x l) = if x.name = c then some x else findF c l
 | [], _ => by show findF c [x] = _; rw [findF_cons]
 | q :: l, hn => by
  unfold insF
  split
  ·rw [findF_cons, findF_ins fun y hy => hn y (List.mem_cons_of_mem _ hy), findF_cons]
   by_cases h1 : q.name = c
   ·simp [h1]
    intro h2
    exact absurd (h1.trans h2.symm) (hn q List.mem_cons_self)
   ·simp [h1]
  ·rw [findF_cons]
theorem wtF_cons (x : Fi) (l : List Fi) : wtF (x :: l) = x.firm.size + x.soft.size + 1 + wtF l := by simp [wtF]
theorem wtF_perm {l m : List Fi} (h : l.Perm m) : wtF l = wtF m := (h.map _).sum_nat
theorem wtF_ins (x : Fi) (l : List Fi) : wtF (insF x l) = x.firm.size + x.soft.size + 1 + wtF l := by rw [wtF_perm (insF_perm x l), wtF_cons]
theorem wtF_len : ∀ l : List Fi, l.length ≤ wtF l
 | [] => by simp [wtF]
 | x :: l => by rw [wtF_cons, List.length_cons]; have := wtF_len l; omega
theorem wtF_mem {x : Fi} : ∀ {l : List Fi}, x ∈ l → x.firm.size + x.soft.size ≤ wtF l
 | [], h => by cases h
 | y :: l, h => by
  rw [wtF_cons]
  rcases List.mem_cons.1 h with rfl | h
  ·omega
  ·have := wtF_mem h; omega
theorem wtF_del {k : ByteArray} : ∀ l : List Fi, wtF (delF k l) ≤ wtF l
 | [] => by simp [delF, wtF]
 | x :: l => by
  have := wtF_del (k := k) l
  unfold delF at this ⊢
  rw [List.filter_cons]
  split
  ·rw [wtF_cons, wtF_cons]; omega
  ·rw [wtF_cons]; omega
/-- a change that adds d at most to the file of a name -/
theorem wtF_upd {k : ByteArray} {g : Fi → Fi} {d : Nat} (hg : ∀ f, (g f).firm.size + (g f).soft.size ≤ f.firm.size + f.soft.size + d) : ∀ {l : List Fi}, SortedF l → wtF (updF k g l) ≤ wtF l + d
 | [], _ => by simp [updF, wtF]
 | x :: l, s => by
  have s' := List.pairwise_cons.1 s
  show wtF ((if x.name = k then g x else x) :: updF k g l) ≤ _
  rw [wtF_cons, wtF_cons]
  split
  ·rename_i h
   have : updF k g l = l := by
    unfold updF
    rw [List.map_congr_left (g := id) fun y hy => ?_, List.map_id]
    have := lt_ne (s'.1 y hy)
    rw [if_neg (fun e => this (h.trans e.symm))]; rfl
   rw [this]
   have := hg x
   omega
  ·have := wtF_upd hg (k := k) s'.2
   omega
/-! ### places in a list -/
/-! ### a box -/
structure Bx where
 files : List Fi
 fuel : Int
 down : Bool
def newB : Bx := ⟨[], -1, false⟩
def badName (n : ByteArray) : Bool := decide (n = bs0) || decide (n.size > 32)
def tickB (m : Bx) : Bx := if m.fuel > 0 then { m with fuel := m.fuel - 1 } else m
def offB (m : Bx) : Bx := { m with down := true }
def haveF (name : ByteArray) (l : List Fi) : List Fi := if (findF name l).isSome then l else insF ⟨name, bs0, bs0⟩ l
def addF (data : ByteArray) (f : Fi) : Fi := { f with soft := f.soft ++ data }
def firmF (f : Fi) : Fi := ⟨f.name, f.firm ++ f.soft, bs0⟩
def appendB (m : Bx) (name data : ByteArray) : Int × Bx :=
 if m.down then (30, m) else if badName name then (1, m) else if m.fuel = 0 then (30, offB m) else (0, { tickB m with files := updF name (addF data) (haveF name m.files) })
def syncB (m : Bx) (name : ByteArray) : Int × Bx :=
 if m.down then (30, m) else if (findF name m.files).isNone then (31, m) else if m.fuel = 0 then (30, offB m) else (0, { tickB m with files := updF name firmF m.files })
def deleteB (m : Bx) (name : ByteArray) : Int × Bx :=
 if m.down then (30, m) else if (findF name m.files).isNone then (31, m) else if m.fuel = 0 then (30, offB m) else (0, { tickB m with files := delF name m.files })
def readB (m : Bx) (name : ByteArray) : ByteArray × Int :=
 if m.down then (bs0, 30) else match findF name m.files with | none => (bs0, 31) | some f => (f.firm ++ f.soft, 0)
def fuelB (m : Bx) (n : Int) : Bx := { m with fuel := if (-1 : Int) > n then -1 else n }
def keptF (keep : List Int) (k : Nat) (f : Fi) : ByteArray :=
 if f.soft = bs0 then f.firm else match keep[k]? with | some n => f.firm ++ f.soft.extract 0 (min n.toNat f.soft.size) | none => f.firm
def nextF (k : Nat) (f : Fi) : Nat := if f.soft = bs0 then k else k + 1
def oneF (keep : List Int) (k : Nat) (f : Fi) : List Fi := if keptF keep k f = bs0 then [] else [⟨f.name, keptF keep k f, bs0⟩]
def crashF (keep : List Int) : Nat → List Fi → List Fi
 | _, [] => []
 | k, f :: l => oneF keep k f ++ crashF keep (nextF k f) l
def crashB (m : Bx) (keep : List Int) : Bx := ⟨crashF keep 0 m.files, -1, false⟩
structure GoodB (m : Bx) : Prop where
 sorted : SortedF m.files
 names : ∀ f ∈ m.files, f.name.size ≤ 32
 lo : -1 ≤ m.fuel
 hi : m.fuel ≤ 9223372036854775807
 wt : wtF m.files ≤ 8796093022208
theorem size_app (a b : ByteArray) : (a ++ b).size = a.size + b.size := ByteArray.size_append
theorem app_nil (a : ByteArray) : a ++ bs0 = a := by simp [ByteArray.ext_iff, bs0]
theorem nil_app (a : ByteArray) : bs0 ++ a = a := by simp [ByteArray.ext_iff, bs0]
theorem goodB_new : GoodB newB := ⟨List.Pairwise.nil, by simp [newB], by simp [newB], by simp [newB], by simp [newB, wtF]⟩
theorem GoodB.tick {m : Bx} (g : GoodB m) (l : List Fi) (h1 : SortedF l) (h2 : ∀ f ∈ l, f.name.size ≤ 32) (h3 : wtF l ≤ 8796093022208) : GoodB { tickB m with files := l } := by
 have := g.lo; have := g.hi
 refine ⟨h1, h2, ?_, ?_, h3⟩
 ·show -1 ≤ (tickB m).fuel
  unfold tickB; split <;> (try simp only []) <;> omega
 ·show (tickB m).fuel ≤ _
  unfold tickB; split <;> (try simp only []) <;> omega
theorem GoodB.off {m : Bx} (g : GoodB m) : GoodB (offB m) := ⟨g.sorted, g.names, g.lo, g.hi, g.wt⟩
theorem haveF_spec {name : ByteArray} {l : List Fi} (s : SortedF l) : SortedF (haveF name l) ∧ wtF (haveF name l) ≤ wtF l + 1 ∧ (∀ f ∈ haveF name l, f ∈ l ∨ f.name = name) := by
 unfold haveF
 split
 ·exact ⟨s, by omega, fun f hf => .inl hf⟩
 ·rename_i h
  have hn := findF_none (by simpa using h)
  refine ⟨insF_sorted s hn, by rw [wtF_ins]; simp [sz0]; omega, fun f hf => ?_⟩
  rcases List.mem_cons.1 ((insF_perm _ l).subset hf) with rfl | hf
  ·exact .inr rfl
  ·exact .inl hf
theorem mem_updF {k : ByteArray} {g : Fi → Fi} (hg : ∀ f, (g f).name = f.name) {l : List Fi} {f : Fi} (hf : f ∈ updF k g l) : ∃ f' ∈ l, f'.name = f.name := by
 unfold updF at hf
 obtain ⟨f', h1, rfl⟩ := List.mem_map.1 hf
 exact ⟨f', h1, by split <;> simp [hg]⟩
theorem GoodB.append {m : Bx} (g : GoodB m) {name data : ByteArray} (hw : wtF m.files + data.size + 1 ≤ 8796093022208) : GoodB (appendB m name data).2 := by
 unfold appendB
 split
 ·exact g
 ·split
  ·exact g
  ·rename_i hb
   split
   ·exact g.off
   ·obtain ⟨h1, h2, h3⟩ := haveF_spec (name := name) g.sorted
    refine g.tick _ (updF_sorted (k := name) (g := addF data) (fun _ => rfl) h1) (fun f hf => ?_) ?_
    ·obtain ⟨f', h4, h5⟩ := mem_updF (g := addF data) (fun _ => rfl) hf
     rw [← h5]
     rcases h3 f' h4 with h | h
     ·exact g.names f' h
     ·rw [h]; simp [badName] at hb; omega
    ·have := wtF_upd (k := name) (g := addF data) (d := data.size) (fun f => by simp [addF]; omega) h1
     omega
theorem GoodB.sync {m : Bx} (g : GoodB m) {name : ByteArray} : GoodB (syncB m name).2 := by
 unfold syncB
 split
 ·exact g
 ·split
  ·exact g
  ·split
   ·exact g.off
   ·refine g.tick _ (updF_sorted (k := name) (g := firmF) (fun _ => rfl) g.sorted) (fun f hf => ?_) ?_
    ·obtain ⟨f', h4, h5⟩ := mem_updF (g := firmF) (fun _ => rfl) hf
     rw [← h5]; exact g.names f' h4
    ·have := wtF_upd (k := name) (g := firmF) (d := 0) (fun f => by simp [firmF, sz0]) g.sorted
     have := g.wt; omega
theorem GoodB.delete {m : Bx} (g : GoodB m) {name : ByteArray} : GoodB (deleteB m name).2 := by
 unfold deleteB
 split
 ·exact g
 ·split
  ·exact g
  ·split
   ·exact g.off
   ·exact g.tick _ (delF_sorted g.sorted) (fun f hf => g.names f (List.mem_filter.1 hf).1) (Nat.le_trans (wtF_del _) g.wt)
theorem GoodB.fuel {m : Bx} (g : GoodB m) {n : Int} (hn : n ≤ 9223372036854775807) : GoodB (fuelB m n) := by
 refine ⟨g.sorted, g.names, ?_, ?_, g.wt⟩ <;> (simp only [fuelB]; split <;> omega)
theorem mem_crashF {keep : List Int} : ∀ {l : List Fi} {k : Nat} {f : Fi}, f ∈ crashF keep k l → ∃ f' ∈ l, f'.name = f.name
 | [], _, _, h => by simp [crashF] at h
 | x :: l, k, f, h => by
  unfold crashF at h
  rcases List.mem_append.1 h with h | h
  ·unfold oneF at h
   split at h
   ·cases h
   ·simp at h; exact ⟨x, List.mem_cons_self, by rw [h]⟩
  ·obtain ⟨f', h1, h2⟩ := mem_crashF h
   exact ⟨f', List.mem_cons_of_mem _ h1, h2⟩
theorem crashF_sorted {keep : List Int} : ∀ {l : List Fi} {k : Nat}, SortedF l → SortedF (crashF keep k l)
 | [], _, _ => List.Pairwise.nil
 | x :: l, k, s => by
  have s' := List.pairwise_cons.1 s
  unfold crashF
  refine List.pairwise_append.2 ⟨?_, crashF_sorted s'.2, ?_⟩
  ·unfold oneF; split
   ·exact List.Pairwise.nil
   ·exact List.pairwise_singleton _ _
  ·intro a ha b hb
   have : a.name = x.name := by
    unfold oneF at ha; split at ha
    ·cases ha
    ·simp at ha; rw [ha]
   obtain ⟨f', h1, h2⟩ := mem_crashF hb
   rw [this, ← h2]; exact s'.1 f' h1
theorem kept_size (keep : List Int) (k : Nat) (f : Fi) : (keptF keep k f).size ≤ f.firm.size + f.soft.size := by
 unfold keptF
 split
 ·omega
 ·split
  ·rw [size_app, ByteArray.size_extract]; omega
  ·omega
theorem crashF_wt {keep : List Int} : ∀ {l : List Fi} {k : Nat}, wtF (crashF keep k l) ≤ wtF l
 | [], _ => by simp [crashF]
 | x :: l, k => by
  unfold crashF
  have := crashF_wt (keep := keep) (l := l) (k := nextF k x)
  have := kept_size keep k x
  unfold oneF
  rw [wtF_cons]
  split
  ·simp; omega
  ·rw [List.singleton_append, wtF_cons]; simp [sz0]; omega
theorem GoodB.crash {m : Bx} (g : GoodB m) {keep : List Int} : GoodB (crashB m keep) :=
 ⟨crashF_sorted g.sorted, fun f hf => by obtain ⟨f', h1, h2⟩ := mem_crashF hf; rw [← h2]; exact g.names f' h1, by simp [crashB], by simp [crashB], Nat.le_trans crashF_wt g.wt⟩
theorem wt_append {m : Bx} (g : GoodB m) (name data : ByteArray) : wtF (appendB m name data).2.files ≤ wtF m.files + data.size + 1 := by
 unfold appendB
 split
 ·simp; omega
 ·split
  ·simp; omega
  ·split
   ·simp [offB]; omega
   ·obtain ⟨h1, h2, _⟩ := haveF_spec (name := name) g.sorted
    have := wtF_upd (k := name) (g := addF data) (d := data.size) (fun f => by simp [addF]; omega) h1
    simp; omega
theorem wt_sync {m : Bx} (g : GoodB m) (name : ByteArray) : wtF (syncB m name).2.files ≤ wtF m.files := by
 unfold syncB
 split
 ·simp
 ·split
  ·simp
  ·split
   ·simp [offB]
   ·have := wtF_upd (k := name) (g := firmF) (d := 0) (fun f => by simp [firmF, sz0]) g.sorted
    simpa using this
theorem wt_delete {m : Bx} (name : ByteArray) : wtF (deleteB m name).2.files ≤ wtF m.files := by
 unfold deleteB
 split
 ·simp
 ·split
  ·simp
  ·split
   ·simp [offB]
   ·exact wtF_del _
theorem wt_crash {m : Bx} {keep : List Int} : wtF (crashB m keep).files ≤ wtF m.files := crashF_wt
end Go.Lf

/-
 LIFT, part U3: an owned slice's element is written; more words.
-/
set_option maxRecDepth 100000
namespace Go.Lf
open Go
theorem flat_set {α : Type} {E : Enc α} {x x' : α} {j : Nat} {v : Value} (hx : E.enc x' = (E.enc x).set j v) (hj : j < E.w) : ∀ {l : List α} {i : Nat}, l[i]? = some x → (l.set i x').flatMap E.enc = (l.flatMap E.enc).set (i * E.w + j) v
 | [], _, h => by simp at h
 | y :: l, 0, h => by
  simp at h; subst h
  rw [List.set_cons_zero, List.flatMap_cons, List.flatMap_cons, hx, Nat.zero_mul, Nat.zero_add, List.set_append_left _ _ (by rw [E.len]; exact hj)]
 | y :: l, i + 1, h => by
  rw [List.set_cons_succ, List.flatMap_cons, List.flatMap_cons, flat_set hx hj (l := l) (i := i) (by simpa using h), List.set_append_right _ _ (by rw [E.len, Nat.add_mul]; omega), E.len]
  rw [show (i + 1) * E.w + j - E.w = i * E.w + j by rw [Nat.add_mul]; omega]
theorem Own.store {α : Type} {E : Enc α} {T : TypeId} {h : Heap} {s : Sl} {l : List α} {i j : Nat} {x x' : α} {v : Value} {K : Heap → Prop} (o : Own E T h s l) (hi : l[i]? = some x) (hx : E.enc x' = (E.enc x).set j v) (hj : j < E.w)
  (H : ∀ h', Own E T h' s (l.set i x') → Mod (fun c => s.blk = some c) h h' → h'.size = h.size → K h') : ∀ a, s.p = some a → Store h ((a.add (i * E.w)).add j) v K := by
 intro a ha
 rcases o.row with ⟨rfl, rfl⟩ | ⟨g, cur, hp, hg, hc, hm, hs, ht⟩
 ·simp at hi
 ·rw [hp] at ha; cases ha
  rw [add_add, add_mk, Nat.zero_add]
  have hil : i < l.length := (List.getElem?_eq_some_iff.1 hi).1
  have hlt : i * E.w + j < s.len * E.w := by
   have : (i + 1) * E.w ≤ s.len * E.w := Nat.mul_le_mul_right _ (by rw [o.len]; exact hil)
   rw [Nat.add_mul] at this; omega
  have hcap : s.len * E.w ≤ cur.size := by rw [hs]; exact Nat.mul_le_mul_right _ hc
  refine Store.mk hg (by omega) fun h' hg' m hsz => H h' ⟨by rw [List.length_set]; exact o.len, .inr ⟨g, _, hp, hg', hc, hm, by simpa using hs, ?_⟩⟩ (m.weak fun c _ hcc => by simp [Sl.blk, hp, hcc]) hsz
  rw [Array.toList_setIfInBounds, List.take_set, ht, flat_set hx hj hi]
/-- an element's cell is read -/
theorem Own.ne {α : Type} {E : Enc α} {T T' : TypeId} {h : Heap} {s : Sl} {l : List α} (o : Own E T h s l) {b : Nat} {cs : Array Value} {fr : Nat × Nat} (hb : h[b]? = some (.cells cs T' fr)) (hT : T ≠ T') : s.blk ≠ some b := by
 intro e
 rcases o.row with ⟨rfl, _⟩ | ⟨g, cur, hp, hg, _⟩
 ·simp [Sl.blk] at e
 ·simp [Sl.blk, hp] at e; subst e
  rw [hg] at hb
  injection hb with hb
  injection hb with _ h2 _
  exact hT h2
theorem max_i64 : IntKind.max .i64 = 9223372036854775807 := by simp [IntKind.max, IntKind.bits, IntKind.signed]
/-! ### what a crash keeps, file by file -/
def cntF (k : Nat) (l : List Fi) : Nat := l.foldl nextF k
theorem crashF_app (keep : List Int) : ∀ (l1 l2 : List Fi) (k : Nat), crashF keep k (l1 ++ l2) = crashF keep k l1 ++ crashF keep (cntF k l1) l2
 | [], _, _ => rfl
 | x :: l1, l2, k => by
  show oneF keep k x ++ crashF keep (nextF k x) (l1 ++ l2) = _
  rw [crashF_app keep l1 l2, ← List.append_assoc]; rfl
theorem crashF_len {keep : List Int} : ∀ {l : List Fi} {k : Nat}, (crashF keep k l).length ≤ l.length
 | [], _ => by simp [crashF]
 | x :: l, k => by
  have := crashF_len (keep := keep) (l := l) (k := nextF k x)
  unfold crashF oneF
  split <;> simp <;> omega
theorem wtF_take : ∀ (n : Nat) (l : List Fi), wtF (l.take n) ≤ wtF l
 | 0, l => by simp [wtF]
 | n + 1, [] => by simp
 | n + 1, x :: l => by rw [List.take_succ_cons, wtF_cons, wtF_cons]; have := wtF_take n l; omega
theorem Mod.weak' {S S' : Nat → Prop} {h h1 : Heap} (a : Mod S h h1) (hs : ∀ b, b < h.size → ¬ S b) : Mod S' h h1 := a.weak fun b hb h => (hs b hb h).elim
theorem cntF_snoc (k : Nat) (l : List Fi) (x : Fi) : cntF k (l ++ [x]) = nextF (cntF k l) x := by simp [cntF]
theorem cntF_le : ∀ (l : List Fi) (k : Nat), cntF k l ≤ k + l.length
 | [], k => by simp [cntF]
 | x :: l, k => by
  show cntF (nextF k x) l ≤ _
  have := cntF_le l (nextF k x)
  have : nextF k x ≤ k + 1 := by unfold nextF; split <;> omega
  rw [List.length_cons]; omega
theorem crashF_snoc (keep : List Int) (l : List Fi) (x : Fi) : crashF keep 0 (l ++ [x]) = crashF keep 0 l ++ oneF keep (cntF 0 l) x := by
 rw [crashF_app]; simp [crashF]
end Go.Lf

/-
 LIFT, part U4: a new variable whose cells are stored one by one.
-/
set_option maxRecDepth 100000
namespace Go.Lf
open Go
theorem New.copy6 {h : Heap} {T : TypeId} {z0 z1 z2 z3 z4 z5 v0 v1 v2 v3 v4 v5 : Value} {K : Nat → Heap → Prop}
  (H : ∀ b h', b = h.size → h'[b]? = some (.cells #[v0, v1, v2, v3, v4, v5] T (0, 0)) → Ext h h' → h'.size = h.size + 1 → K b h') :
  New h (.cells #[z0, z1, z2, z3, z4, z5] T) fun b h1 => Store h1 ⟨b, 0, none⟩ v0 fun h2 => Store h2 ((⟨b, 0, none⟩ : Addr).add 1) v1 fun h3 => Store h3 ((⟨b, 0, none⟩ : Addr).add 2) v2 fun h4 => Store h4 ((⟨b, 0, none⟩ : Addr).add 3) v3 fun h5 => Store h5 ((⟨b, 0, none⟩ : Addr).add 4) v4 fun h6 => Store h6 ((⟨b, 0, none⟩ : Addr).add 5) v5 fun h7 => K b h7 := by
 refine New.mk fun h1 _ hb1 x1 hs1 => ?_
 simp only [add_mk, Nat.zero_add]
 refine Store.mk hb1 (by simp) fun h2 hb2 m2 hs2 => ?_
 refine Store.mk hb2 (by simp) fun h3 hb3 m3 hs3 => ?_
 refine Store.mk hb3 (by simp) fun h4 hb4 m4 hs4 => ?_
 refine Store.mk hb4 (by simp) fun h5 hb5 m5 hs5 => ?_
 refine Store.mk hb5 (by simp) fun h6 hb6 m6 hs6 => ?_
 refine Store.mk hb6 (by simp) fun h7 hb7 m7 hs7 => ?_
 refine H _ _ rfl (by simpa using hb7) ?_ (by omega)
 have m := (((((m2.trans m3).trans m4).trans m5).trans m6).trans m7)
 exact ⟨by omega, fun b hlt _ => (m.get b (by omega) (by omega)).trans (x1.get b hlt (by simp))⟩
end Go.Lf

/-
 Contracts: numbers and texts as bytes (chapter 1), and what reads them.
-/
set_option maxRecDepth 100000
set_option linter.unusedVariables false
set_option linter.unusedSimpArgs false
namespace Go.Lf.G
open Go
theorem P_str : P.underlying t_string = some .string := by kernel_rfl
theorem P_u8 : P.underlying t_uint8 = some (.int .u8) := by kernel_rfl
theorem P_slu8 : P.underlying t_sl_uint8 = some (.slice t_uint8) := by kernel_rfl
theorem app_u8 : appB P t_sl_uint8 t_uint8 ByteE.w 1 = true := by kernel_rfl
theorem vPut_ok {A : Amb} {h : Heap} {n : Nat} {R : Value → Heap → Prop} (hn : n < 18446744073709551616) (H : ∀ h', Ext h h' → R (.string (strL (putV n))) h') : HCalls A P f_vary_Put #[.int .u64 (n : Int)] h R := by
 refine ok_vary_Put ?_
 unfold F_vary_Put
 have hl10 := putV_len10 hn
 refine Loop.rule (fun m x hh => ∃ (k : Nat) (s : Sl) (d : List UInt8), x = ((k : Int), s, ()) ∧ Own ByteE t_uint8 hh s d ∧ Ext h hh ∧ (∀ b, s.blk = some b → h.size ≤ b) ∧ putV n = d ++ putV k ∧ m = k) ?_
  ⟨n, ⟨none, 0, 0⟩, [], rfl, Own.nil, Mod.refl, fun b hb => by simp [Sl.blk] at hb, rfl, rfl⟩
 rintro K m _ hh ⟨k, s, d, rfl, o, x, hs, e, hm⟩ hK
 have hd : d.length ≤ 10 := by rw [e] at hl10; simp at hl10; omega
 refine PIf.intro (fun hq => ?_) (fun hq => ?_)
 ·have hk : ¬ k < 128 := by simp at hq; omega
  refine New.append1 (E := ByteE) (x := byteN (k % 128 + 128)) (s := s) (l := d) (by dsimp only [ByteE]; rw [put_byte]) app_u8 o (by simp; omega) (by simp [maxLen]; omega) fun s' h' o' m' hb' hn' => ?_
  refine hK (k / 128) _ _ (by omega) ⟨k / 128, s', d ++ [byteN (k % 128 + 128)], ?_, o', x.more m' hs, fun b hb => ?_, ?_, rfl⟩
  ·dsimp only
   rw [fdiv_nat k 7]
  ·rcases hb' b hb with h1 | h1
   ·exact hs b h1
   ·have := x.size; omega
  ·rw [e, putV_big hk]; simp
 ·have hk : k < 128 := by simp at hq; omega
  refine New.append1 (E := ByteE) (x := byteN k) (s := s) (l := d) (by dsimp only [ByteE]; rw [byteN_nat (show k < 256 by omega), wrap_u8, Nat.mod_eq_of_lt (show k < 256 by omega)]) app_u8 o (by simp; omega) (by simp [maxLen]; omega) fun s' h' o' m' hb' hn' => ?_
  refine bytes_str P_slu8 P_u8 P_str o'.view ⟨_, rfl, ?_⟩
  have e2 : d ++ [byteN k] = putV n := by rw [e, putV_small hk]
  rw [e2]
  exact H _ (x.more m' hs)
theorem ite_lt10 (n : Nat) : (if (10 : Int) < (n : Int) then (10 : Int) else (n : Int)) = ((min n 10 : Nat) : Int) := by split <;> omega
theorem vGet_ok {A : Amb} {h : Heap} {s : ByteArray} {R : Value → Heap → Prop} (hs : s.size ≤ 8796093022208)
  (H0 : getV 0 0 s.data.toList = none → R (.tuple #[.int .u64 0, .string ⟨#[]⟩, .bool false]) h)
  (H1 : ∀ n t, getV 0 0 s.data.toList = some (n, t) → R (.tuple #[.int .u64 (n : Int), .string (strL t), .bool true]) h) : HCalls A P f_vary_Get #[.string s] h R := by
 refine ok_vary_Get ?_
 unfold F_vary_Get
 have hls : s.data.toList.length = s.size := by rw [Array.length_toList]; rfl
 refine Loop.rule (fun m x hh => ∃ (i a : Nat), x = ((a : Int), (i : Int), ()) ∧ hh = h ∧ i ≤ s.size ∧ i ≤ 10 ∧ a < 128 ^ i ∧ getV 0 0 s.data.toList = getV i a (s.data.toList.drop i) ∧ m = 10 - i) ?_
  ⟨0, 0, rfl, rfl, by omega, by omega, by simp, rfl, rfl⟩
 rintro K m _ hh ⟨i, a, rfl, e, hi, h10, ha, hg, hm⟩ hK
 subst hh
 dsimp only
 rw [ite_lt10]
 refine PIf.intro (fun hq => ?_) (fun hq => ?_)
 ·have hi1 : i < s.size ∧ i < 10 := by simp at hq; omega
  have hil : i < s.data.toList.length := by omega
  refine ⟨⟨by omega, by omega⟩, ?_⟩
  obtain ⟨c, hc⟩ : ∃ c, s.data.toList[i]? = some c := ⟨_, List.getElem?_eq_getElem hil⟩
  have hdrop : s.data.toList.drop i = c :: s.data.toList.drop (i + 1) := by
   rw [List.drop_eq_getElem_cons hil]
   rw [List.getElem?_eq_getElem hil] at hc
   rw [Option.some.inj hc]
  have hc256 : c.toNat < 256 := c.toNat_lt
  rw [sAt_nat hc]
  have hbad : ((i = 9 ∧ 1 < c.toNat) ∨ (0 < i ∧ c.toNat = 0)) → getV 0 0 s.data.toList = none := fun hb => by
   rw [hg, hdrop, getV, if_pos (.inr hb)]
  have hgo : ¬ ((i = 9 ∧ 1 < c.toNat) ∨ (0 < i ∧ c.toNat = 0)) → getV 0 0 s.data.toList = if c.toNat < 128 then some (a + c.toNat * 128 ^ i, s.data.toList.drop (i + 1)) else getV (i + 1) (a + c.toNat % 128 * 128 ^ i) (s.data.toList.drop (i + 1)) := fun hb => by
   rw [hg, hdrop, getV, if_neg (fun h => h.elim (by omega) hb)]
  refine Join.mk fun K1 hK1 => ?_
  have key : ∀ (b : Bool), (b = true ↔ ((i = 9 ∧ 1 < c.toNat) ∨ (0 < i ∧ c.toNat = 0))) → K1 (b, ()) h := fun b hb => by
   refine hK1 _ _ ?_
   refine PIf.intro (fun hb1 => H0 (hbad (hb.1 hb1))) (fun hb0 => ?_)
   have hnb : ¬ ((i = 9 ∧ 1 < c.toNat) ∨ (0 < i ∧ c.toNat = 0)) := fun h => by rw [hb.2 h] at hb0; cases hb0
   have hg2 := hgo hnb
   have e7 : IntKind.wrap .i64 ((7 : Int) * (i : Int)) = ((7 * i : Nat) : Int) := by rw [show (7 : Int) * (i : Int) = ((7 * i : Nat) : Int) by simp]; exact wrap_nat (by omega)
   have e127 : bAnd .u8 (c.toNat : Int) (127 : Int) = ((c.toNat % 128 : Nat) : Int) := by
    have := and_u8 (a := c.toNat) (b := 127) hc256 (by decide)
    rw [and127 _ hc256] at this
    exact this
   have ew : IntKind.wrap .u64 ((c.toNat % 128 : Nat) : Int) = ((c.toNat % 128 : Nat) : Int) := by rw [wrap_u64, Nat.mod_eq_of_lt (by omega)]
   rw [e7, e127, ew, shift7 (by omega) (Nat.mod_lt _ (by decide)), step_or (by omega) ha (Nat.mod_lt _ (by decide)), wrap_succ (by omega)]
   have h9 := pow128_le (show i ≤ 9 by omega)
   have e9 : (128 : Nat) ^ 9 = 9223372036854775808 := by decide
   have hmod : c.toNat % 128 * 128 ^ i % 18446744073709551616 = c.toNat % 128 * 128 ^ i := by
    refine Nat.mod_eq_of_lt ?_
    by_cases hi9 : i = 9
    ·subst hi9
     have : c.toNat ≤ 1 := by omega
     rw [e9]; omega
    ·have h8 := pow128_le (show i ≤ 8 by omega)
     have e8 : (128 : Nat) ^ 8 = 72057594037927936 := by decide
     have : c.toNat % 128 * 128 ^ i ≤ 127 * 128 ^ i := Nat.mul_le_mul_right _ (by omega)
     omega
   rw [hmod]
   refine ⟨by omega, ?_⟩
   refine PIf.intro (fun hq => ?_) (fun hq => ?_)
   ·have hlow : c.toNat < 128 := by simp at hq; omega
    rw [if_pos hlow] at hg2
    refine ⟨⟨by omega, by omega⟩, ?_⟩
    have := H1 _ _ hg2
    rw [Nat.mod_eq_of_lt hlow]
    have e : s.extract ((i + 1 : Nat) : Int).toNat s.size = strL (s.data.toList.drop (i + 1)) := ext_drop _ _
    rw [e]
    exact this
   ·have hlow : ¬ c.toNat < 128 := by simp at hq; omega
    rw [if_neg hlow] at hg2
    refine hK (10 - (i + 1)) _ _ (by omega) ⟨i + 1, a + c.toNat % 128 * 128 ^ i, rfl, rfl, by omega, by omega, ?_, hg2, rfl⟩
    have : (c.toNat % 128 + 1) * 128 ^ i ≤ 128 * 128 ^ i := Nat.mul_le_mul_right _ (by omega)
    rw [Nat.add_mul] at this
    rw [Nat.pow_succ, Nat.mul_comm (128 ^ i)]
    omega
  refine PIf.intro (fun hq => ?_) (fun hq => ?_)
  ·have hi9 : i = 9 := by simp at hq; omega
   refine PIf.intro (fun hq2 => key _ ⟨fun _ => .inl ⟨hi9, by simp at hq2; omega⟩, fun _ => rfl⟩) (fun hq2 => ?_)
   refine PIf.intro (fun hq3 => key _ ⟨fun hz => .inr ⟨by omega, by simp at hz; omega⟩, fun hz => by simp at hq2 ⊢; omega⟩) (fun hq3 => ?_)
   simp at hq3; omega
  ·have hi9 : i ≠ 9 := by simp at hq; omega
   refine PIf.intro (fun hq3 => key _ ⟨fun hz => .inr ⟨by simp at hq3; omega, by simp at hz; omega⟩, fun hz => (by simp; omega)⟩) (fun hq3 => key _ ⟨(fun hz => (by cases hz)), fun hz => (by simp at hq3; omega)⟩)
 ·have hi1 : s.size = i ∨ i = 10 := by simp at hq; omega
  refine H0 ?_
  rw [hg]
  rcases hi1 with h1 | h1
  ·rw [List.drop_of_length_le (by omega)]; rfl
  ·cases hd : s.data.toList.drop i with
   | nil => rfl
   | cons c t => rw [getV, if_pos (.inl (by omega))]
end Go.Lf.G

/-
 Contracts: readers of bytes (chapter 1), sums and frames (chapter 2).
-/
set_option maxRecDepth 100000
set_option linter.unusedVariables false
set_option linter.unusedSimpArgs false
namespace Go.Lf.G
open Go
theorem atI {a : Addr} {K : Addr → Prop} (h : K a) : At (some a) K := h
theorem Store.mk1 {h : Heap} {b j : Nat} {v : Value} {cs : Array Value} {T : TypeId} {K : Heap → Prop} (hb : h[b]? = some (.cells cs T (0, 0))) (hj : j < cs.size)
  (H : ∀ h', h'[b]? = some (.cells (cs.setIfInBounds j v) T (0, 0)) → Mod (· = b) h h' → h'.size = h.size → K h') : Store h ((⟨b, 0, none⟩ : Addr).add j) v K := by
 rw [add_mk, Nat.zero_add]; exact Store.mk hb hj H
theorem max_i64 : IntKind.max .i64 = 9223372036854775807 := by simp [IntKind.max, IntKind.bits, IntKind.signed]
theorem wrap_i64 {n : Int} (h1 : -9223372036854775808 ≤ n) (h2 : n ≤ 9223372036854775807) : IntKind.wrap .i64 n = n := by
 simp only [IntKind.wrap, IntKind.bits, IntKind.signed]
 simp
 omega
theorem wrap_u64n {n : Nat} (h : n < 18446744073709551616) : IntKind.wrap .u64 (n : Int) = (n : Int) := by rw [wrap_u64, Nat.mod_eq_of_lt h]
abbrev ptrV (b : Nat) : Value := .pointer (some ⟨b, 0, none⟩)
/-- a reader in memory -/
def RdAt (h : Heap) (b : Nat) (r : Rd) : Prop := h[b]? = some (.cells #[.string (strL r.rest), .bool r.bad] t_vary_Reader (0, 0))
theorem strL_nil : strL [] = ⟨#[]⟩ := rfl
theorem strL_take (l : List UInt8) (n : Nat) : (strL l).extract 0 n = strL (l.take n) := by rw [ext_take, strL_list]
theorem strL_drop (l : List UInt8) (n : Nat) : (strL l).extract n (strL l).size = strL (l.drop n) := by rw [ext_drop, strL_list]
theorem strL_mid (l : List UInt8) (i j : Nat) : (strL l).extract i j = strL ((l.take j).drop i) := by rw [ext_list, strL_list]
theorem strL_app (a b : List UInt8) : strL a ++ strL b = strL (a ++ b) := by
 apply ByteArray.ext
 simp [strL, ByteArray.data_append]
theorem vText_ok {A : Amb} {h : Heap} {l : List UInt8} {R : Value → Heap → Prop} (hl : l.length ≤ 1099511627776) (H : ∀ h', Ext h h' → R (.string (strL (textL l))) h') : HCalls A P f_vary_Text #[.string (strL l)] h R := by
 refine ok_vary_Text ?_
 unfold F_vary_Text
 rw [strL_size, wrap_u64n (by omega)]
 have := putV_len10 (n := l.length) (by omega)
 refine vPut_ok (by omega) fun h1 x1 => ⟨_, rfl, ⟨by rw [strL_size, max_i64]; omega, ?_⟩⟩
 rw [strL_app]
 exact H _ x1
theorem vRead_ok {A : Amb} {h : Heap} {l : List UInt8} {R : Value → Heap → Prop} (H : ∀ h', RdAt h' h.size ⟨l, false⟩ → Ext h h' → R (ptrV h.size) h') : HCalls A P f_vary_Read #[.string (strL l)] h R := by
 refine ok_vary_Read ?_
 unfold F_vary_Read
 exact New.mk fun h1 _ hb x _ => H h1 hb x
theorem vNum_ok {A : Amb} {h : Heap} {b : Nat} {r : Rd} {R : Value → Heap → Prop} (hb : RdAt h b r) (hl : r.rest.length ≤ 1099511627776)
  (H : ∀ h', RdAt h' b (numR r).2 → Mod (· = b) h h' → R (.int .u64 ((numR r).1 : Int)) h') : HCalls A P f_vary_Reader_Num #[ptrV b] h R := by
 refine ok_vary_Reader_Num ?_
 unfold F_vary_Reader_Num
 refine Join.mk fun K hK => PIf.no rfl (atI (LoadB.mk (hget_lit1 hb rfl) (hK _ _ ?_)))
 refine PIf.intro (fun hq => ?_) (fun hq => ?_)
 ·have := H h
  rw [numR_bad hq] at this
  exact this hb Mod.refl
 ·refine atI (LoadS.mk (hget_lit hb rfl) ?_)
  have hq : r.bad = false := hq
  refine vGet_ok (by rw [strL_size]; exact Nat.le_trans hl (by decide)) (fun hn => ⟨_, _, _, rfl, ?_⟩) (fun n t hn => ⟨_, _, _, rfl, ?_⟩)
  all_goals
   rw [strL_list] at hn
   refine atI (Store.mk hb (by simp) fun h1 hb1 m1 hs1 => atI (Store.mk1 hb1 (by simp) fun h2 hb2 m2 hs2 => ?_))
   have := H h2
   simp only [numR, hq, hn] at this
   exact this hb2 (m1.trans m2)
theorem wrap_most {m : Nat} (h : m ≤ 9223372036854775807) : IntKind.wrap .u64 (m : Int) = (m : Int) := wrap_u64n (by omega)
theorem vInt_ok {A : Amb} {h : Heap} {b : Nat} {r : Rd} {most : Nat} {R : Value → Heap → Prop} (hb : RdAt h b r) (hl : r.rest.length ≤ 1099511627776) (hm : most ≤ 9223372036854775807)
  (H : ∀ h', RdAt h' b (intR most r).2 → Mod (· = b) h h' → R (.int .i64 ((intR most r).1 : Int)) h') : HCalls A P f_vary_Reader_Int #[ptrV b, .int .i64 (most : Int)] h R := by
 refine ok_vary_Reader_Int ?_
 unfold F_vary_Reader_Int
 refine vNum_ok hb hl fun h1 hb1 m1 => ⟨_, rfl, ?_⟩
 refine Join.mk fun K hK => PIf.no rfl (atI (LoadB.mk (hget_lit1 hb1 rfl) (hK _ _ ?_)))
 refine PIf.intro (fun hq => ?_) (fun hq => ?_)
 ·have := H h1
  have hq : (numR r).2.bad = true := hq
  simp only [intR, hq, if_true] at this
  exact this hb1 m1
 ·have hq : (numR r).2.bad = false := hq
  refine Join.mk fun K1 hK1 => PIf.no (by simp) (hK1 _ _ ?_)
  rw [wrap_most hm]
  refine PIf.intro (fun hq2 => ?_) (fun hq2 => ?_)
  ·refine atI (Store.mk hb1 (by simp) fun h2 hb2 m2 hs2 => atI (Store.mk1 hb2 (by simp) fun h3 hb3 m3 hs3 => ?_))
   have := H h3
   simp only [intR, hq] at this
   rw [if_neg (by simp), if_pos (by simp at hq2; omega)] at this
   exact this hb3 ((m1.trans m2).trans m3)
  ·have := H h1
   simp at hq2
   simp only [intR, hq] at this
   rw [if_neg (by simp), if_neg (by omega)] at this
   rw [wrap_nat (by omega)]
   exact this hb1 m1
theorem vTake_ok {A : Amb} {h : Heap} {b n : Nat} {r : Rd} {R : Value → Heap → Prop} (hb : RdAt h b r)
  (H : ∀ h', RdAt h' b (takeR n r).2 → Mod (· = b) h h' → R (.string (strL (takeR n r).1)) h') : HCalls A P f_vary_Reader_Take #[ptrV b, .int .i64 (n : Int)] h R := by
 refine ok_vary_Reader_Take ?_
 unfold F_vary_Reader_Take
 refine Join.mk fun K hK => PIf.no rfl (atI (LoadB.mk (hget_lit1 hb rfl) (hK _ _ ?_)))
 refine PIf.intro (fun hq => ?_) (fun hq => ?_)
 ·have := H h
  have hq : r.bad = true := hq
  simp only [takeR, hq, if_true] at this
  exact this hb Mod.refl
 ·have hq : r.bad = false := hq
  refine Join.mk fun K1 hK1 => PIf.no (by simp) (atI (LoadS.mk (hget_lit hb rfl) (hK1 _ _ ?_)))
  rw [strL_size]
  refine PIf.intro (fun hq2 => ?_) (fun hq2 => ?_)
  ·refine atI (Store.mk hb (by simp) fun h2 hb2 m2 hs2 => atI (Store.mk1 hb2 (by simp) fun h3 hb3 m3 hs3 => ?_))
   have := H h3
   simp only [takeR, hq] at this
   rw [if_neg (by simp), if_pos (by simp at hq2; omega)] at this
   exact this hb3 (m2.trans m3)
  ·simp at hq2
   refine atI (LoadS.mk (hget_lit hb rfl) ⟨⟨by omega, by rw [strL_size]; omega⟩, atI (LoadS.mk (hget_lit hb rfl) ⟨⟨by omega, by rw [strL_size]; omega⟩, atI (Store.mk hb (by simp) fun h2 hb2 m2 hs2 => ?_)⟩)⟩)
   have := H h2
   simp only [takeR, hq] at this
   rw [if_neg (by simp), if_neg (by omega)] at this
   simp only [Int.toNat_natCast, strL_take, strL_drop] at hb2 ⊢
   rw [hq] at hb2
   exact this hb2 m2
theorem vRText_ok {A : Amb} {h : Heap} {b : Nat} {r : Rd} {R : Value → Heap → Prop} (hb : RdAt h b r) (hl : r.rest.length < 1099511627776)
  (H : ∀ h', RdAt h' b (textR r).2 → Mod (· = b) h h' → R (.string (strL (textR r).1)) h') : HCalls A P f_vary_Reader_Text #[ptrV b] h R := by
 refine ok_vary_Reader_Text ?_
 unfold F_vary_Reader_Text
 refine vNum_ok hb (by omega) fun h1 hb1 m1 => ⟨_, rfl, ?_⟩
 have hln := len_numR r
 refine Join.mk fun K hK => PIf.no rfl (atI (LoadB.mk (hget_lit1 hb1 rfl) (hK _ _ ?_)))
 refine PIf.intro (fun hq => ?_) (fun hq => ?_)
 ·have := H h1
  have hq : (numR r).2.bad = true := hq
  simp only [textR, hq, if_true] at this
  exact this hb1 m1
 ·have hq : (numR r).2.bad = false := hq
  have e : IntKind.wrap .i64 (if (1099511627776 : Int) < ((numR r).1 : Int) then 1099511627776 else ((numR r).1 : Int)) = ((min (numR r).1 1099511627776 : Nat) : Int) := by
   rw [wrap_i64 (by split <;> omega) (by split <;> omega)]
   split <;> omega
  rw [e]
  refine vTake_ok hb1 fun h2 hb2 m2 => ⟨_, rfl, ?_⟩
  have := H h2
  simp only [textR, hq] at this
  rw [if_neg (by simp)] at this
  have e2 : takeR (min (numR r).1 1099511627776) (numR r).2 = takeR (numR r).1 (numR r).2 := by
   by_cases hle : (numR r).1 ≤ 1099511627776
   ·rw [Nat.min_eq_left hle]
   ·have q1 : (numR r).2.rest.length < min (numR r).1 1099511627776 := by omega
    have q2 : (numR r).2.rest.length < (numR r).1 := by omega
    simp only [takeR, hq, Bool.false_eq_true, if_false, if_pos q1, if_pos q2]
  rw [e2] at hb2 ⊢
  exact this hb2 (m1.trans m2)
theorem vEnd_ok {A : Amb} {h : Heap} {b : Nat} {r : Rd} {R : Value → Heap → Prop} (hb : RdAt h b r) (H : R (.bool (endR r)) h) : HCalls A P f_vary_Reader_End #[ptrV b] h R := by
 refine ok_vary_Reader_End ?_
 unfold F_vary_Reader_End
 refine PIf.yes rfl (atI (LoadB.mk (hget_lit1 hb rfl) ?_))
 unfold endR at H
 refine PIf.intro (fun hq => ?_) (fun hq => ?_)
 ·refine atI (LoadS.mk (hget_lit hb rfl) ?_)
  rw [hq] at H
  have e : sEq (strL r.rest) (⟨#[]⟩ : ByteArray) = r.rest.isEmpty := by
   rw [sEq_iff, ← strL_nil]
   cases hr : r.rest with
   | nil => simp
   | cons c t => simp [strL_inj]
  rw [e]; simpa using H
 ·rw [hq] at H; exact H
/-! ### sums and frames -/
theorem crc_step {c : Nat} (hc : c < 4294967296) : bXor .u32 ((c : Int).fdiv ((2 : Int) ^ (1 : Nat))) (bAnd .u32 (3988292384 : Int) (IntKind.wrap .u32 (0 - (bAnd .u32 (c : Int) (1 : Int))))) = ((crcBit c : Nat) : Int) := by
 have h1 : bAnd .u32 (c : Int) (1 : Int) = ((c % 2 : Nat) : Int) := by
  have := and_u32 (a := c) (b := 1) hc (by decide)
  rw [Nat.and_one_is_mod] at this
  exact this
 rw [fdiv_nat c 1, h1]
 unfold crcBit
 have hd : c / 2 ^ 1 < 4294967296 := by omega
 by_cases ho : c % 2 = 1
 ·rw [if_pos ho, ho]
  have e : IntKind.wrap .u32 (0 - ((1 : Nat) : Int)) = ((4294967295 : Nat) : Int) := by decide
  have e2 : bAnd .u32 (3988292384 : Int) ((4294967295 : Nat) : Int) = ((3988292384 : Nat) : Int) := by decide
  rw [e, e2, xor_u32 hd (by decide)]
 ·rw [if_neg ho, show c % 2 = 0 by omega]
  have e : IntKind.wrap .u32 (0 - ((0 : Nat) : Int)) = ((0 : Nat) : Int) := by decide
  have e2 : bAnd .u32 (3988292384 : Int) ((0 : Nat) : Int) = ((0 : Nat) : Int) := by decide
  rw [e, e2, xor_u32 hd (by decide)]
  simp
theorem crc_not {c : Nat} (hc : c < 4294967296) : bXor .u32 (if IntKind.signed .u32 then -1 else IntKind.max .u32) (c : Int) = ((4294967295 - c : Nat) : Int) := by
 have e : (if IntKind.signed .u32 then -1 else IntKind.max .u32) = ((4294967295 : Nat) : Int) := by decide
 rw [e, xor_u32 (by decide) hc]
 congr 1
 have e1 : 4294967295 - c = 2 ^ 32 - (c + 1) := by omega
 have e2 : (4294967295 : Nat) = 2 ^ 32 - 1 := by decide
 have hc' : c < 2 ^ 32 := by omega
 rw [e1, e2]
 apply Nat.eq_of_testBit_eq
 intro i
 rw [Nat.testBit_xor, Nat.testBit_two_pow_sub_one, Nat.testBit_two_pow_sub_succ hc']
 by_cases hi : i < 32
 ·simp [hi]
 ·have : c.testBit i = false := Nat.testBit_lt_two_pow (Nat.lt_of_lt_of_le hc' (Nat.pow_le_pow_right (by decide) (by omega)))
  simp [hi, this]
theorem fSum_ok {A : Amb} {h : Heap} {l : List UInt8} {R : Value → Heap → Prop} (hl : l.length ≤ 1099511627776) (H : R (.int .u32 (crcL l : Int)) h) : HCalls A P f_frame_Sum #[.string (strL l)] h R := by
 refine ok_frame_Sum ?_
 unfold F_frame_Sum
 rw [strL_size]
 refine Loop.rule (fun m x hh => ∃ i : Nat, x = ((crcF (l.take i) : Int), (i : Int), ()) ∧ hh = h ∧ m = l.length - i ∧ i ≤ l.length) ?_ ⟨0, rfl, rfl, rfl, by omega⟩
 rintro K m _ hh ⟨i, rfl, e, rfl, hi⟩ hK
 subst hh
 refine PIf.intro (fun hq => ?_) (fun hq => ?_)
 ·have hil : i < l.length := by simpa using hq
  obtain ⟨c, hc⟩ : ∃ c, l[i]? = some c := ⟨_, List.getElem?_eq_getElem hil⟩
  have hc256 : c.toNat < 256 := c.toNat_lt
  refine ⟨⟨by dsimp only; omega, by dsimp only; omega⟩, ?_⟩
  have hlt := crcF_lt (l.take i)
  dsimp only
  rw [sAt_nat (c := c) (by rw [strL_list]; exact hc), wrap_u32, Nat.mod_eq_of_lt (show c.toNat < 4294967296 by omega), xor_u32 hlt (by omega)]
  have hx : crcF (l.take i) ^^^ c.toNat < 4294967296 := Nat.xor_lt_two_pow (n := 32) hlt (by omega)
  refine Loop.rule (fun m x hh => ∃ k : Nat, x = ((crcIt k (crcF (l.take i) ^^^ c.toNat) : Int), (k : Int), ()) ∧ hh = h ∧ m = 8 - k ∧ k ≤ 8) ?_ ⟨0, rfl, rfl, rfl, by omega⟩
  rintro K1 m1 _ hh ⟨k, rfl, e, rfl, hk⟩ hK1
  subst hh
  refine PIf.intro (fun hq2 => ?_) (fun hq2 => ?_)
  ·have hk8 : k < 8 := by simp at hq2; omega
   dsimp only
   rw [crc_step (crcIt_lt hx k), wrap_succ (by omega)]
   exact hK1 (8 - (k + 1)) _ _ (by omega) ⟨k + 1, rfl, rfl, rfl, hk8⟩
  ·have hk8 : k = 8 := by simp at hq2; omega
   subst hk8
   dsimp only
   rw [wrap_succ (by omega)]
   refine hK (l.length - (i + 1)) _ _ (by omega) ⟨i + 1, ?_, rfl, rfl, hil⟩
   rw [List.take_add_one, hc, Option.toList_some, crcF_snoc]
   rfl
 ·have hil : i = l.length := by simp at hq; omega
  have e : l.take i = l := List.take_of_length_le (by omega)
  dsimp only
  rw [e, crc_not (crcF_lt l)]
  exact H
theorem mark_byte (n k : Nat) : IntKind.wrap .u8 ((n : Int).fdiv ((2 : Int) ^ k)) = (((byteN (n / 2 ^ k % 256)).toNat : Nat) : Int) := by
 rw [fdiv_nat, wrap_u8, byteN_nat (Nat.mod_lt _ (by decide))]
theorem fmark_ok {A : Amb} {h : Heap} {n : Nat} {R : Value → Heap → Prop} (H : ∀ h', Ext h h' → R (.string (strL (markL n))) h') : HCalls A P f_frame_mark #[.int .u32 (n : Int)] h R := by
 refine ok_frame_mark ?_
 unfold F_frame_mark
 refine New.mk fun h1 _ hb x _ => ?_
 have e0 : IntKind.wrap .u8 (n : Int) = (((byteN (n % 256)).toNat : Nat) : Int) := by rw [wrap_u8, byteN_nat (Nat.mod_lt _ (by decide))]
 rw [mark_byte, mark_byte, mark_byte, e0] at hb
 have o : Own ByteE t_uint8 h1 ⟨some ⟨h.size, 0, none⟩, 4, 4⟩ (markL n) := Own.lit (E := ByteE) (l := markL n) hb rfl (by simp [maxLen, markL])
 exact bytes_str (s := ⟨some ⟨h.size, 0, none⟩, 4, 4⟩) P_slu8 P_u8 P_str o.view ⟨_, rfl, H _ x⟩
theorem fWrap_ok {A : Amb} {h : Heap} {l : List UInt8} {R : Value → Heap → Prop} (hl : l.length ≤ 1099511627776) (H1 : 1048576 < l.length → R (.tuple #[.string ⟨#[]⟩, .int .i64 2]) h)
  (H : l.length ≤ 1048576 → ∀ h', Ext h h' → R (.tuple #[.string (strL (wrapL l)), .int .i64 0]) h') : HCalls A P f_frame_Wrap #[.string (strL l)] h R := by
 refine ok_frame_Wrap ?_
 unfold F_frame_Wrap
 rw [strL_size]
 refine PIf.intro (fun hq => H1 (by simp at hq; omega)) (fun hq => ?_)
 have hlen : l.length ≤ 1048576 := by simp at hq; omega
 have := putV_len10 (n := l.length) (by omega)
 rw [wrap_u64n (by omega)]
 refine vPut_ok (by omega) fun h1 x1 => ⟨_, rfl, ?_⟩
 refine fSum_ok hl ⟨_, rfl, ?_⟩
 refine fmark_ok fun h2 x2 => ⟨_, rfl, ⟨?_, ?_, ?_⟩⟩
 ·rw [strL_size, strL_size, max_i64, markL_len]; omega
 ·rw [strL_app, strL_size, max_i64, List.length_append, markL_len]; omega
 ·rw [strL_app, strL_app]
  exact H hlen _ (x1.trans x2)
theorem fNext_ok {A : Amb} {h : Heap} {l : List UInt8} {R : Value → Heap → Prop} (hl : l.length ≤ 8796093022208)
  (H : ∀ h', Ext h h' → R (.tuple #[.string (strL (nextL l).2.1), .string (strL (nextL l).2.2), .int .i64 ((nextL l).1 : Int)]) h') : HCalls A P f_frame_Next #[.string (strL l)] h R := by
 refine ok_frame_Next ?_
 unfold F_frame_Next
 rw [strL_size]
 have H0 := H h Mod.refl
 refine vGet_ok (by rw [strL_size]; exact hl) (fun hn => ⟨_, _, _, rfl, ?_⟩) (fun n t hn => ⟨_, _, _, rfl, ?_⟩) <;> rw [strL_list] at hn
 ·have hnx : nextL l = if l.length < 10 ∧ ∀ c ∈ l, 128 ≤ c.toNat then (20, [], []) else (21, [], []) := by unfold nextL; rw [hn]
  rw [hnx] at H0
  refine Join.mk fun K hK => PIf.yes rfl (hK _ _ ?_)
  refine PIf.intro (fun hq => ?_) (fun hq => ?_)
  ·have h10 : l.length < 10 := by simp at hq; omega
   refine Loop.rule (fun m x hh => ∃ i : Nat, x = ((i : Int), ()) ∧ hh = h ∧ m = l.length - i ∧ i ≤ l.length ∧ ∀ c ∈ l.take i, 128 ≤ c.toNat) ?_ ⟨0, rfl, rfl, rfl, by omega, by simp⟩
   rintro K1 m _ hh ⟨i, rfl, e, rfl, hi, hall⟩ hK1
   subst hh
   refine PIf.intro (fun hq2 => ?_) (fun hq2 => ?_)
   ·have hil : i < l.length := by simpa using hq2
    obtain ⟨c, hc⟩ : ∃ c, l[i]? = some c := ⟨_, List.getElem?_eq_getElem hil⟩
    refine ⟨⟨by dsimp only; omega, by dsimp only; omega⟩, ?_⟩
    dsimp only
    rw [sAt_nat (c := c) (by rw [strL_list]; exact hc)]
    refine PIf.intro (fun hq3 => ?_) (fun hq3 => ?_)
    ·rw [if_neg] at H0
     ·exact H0
     ·rintro ⟨_, h2⟩
      have := h2 c (List.mem_of_getElem? hc)
      simp at hq3; omega
    ·rw [wrap_succ (by omega)]
     refine hK1 (l.length - (i + 1)) _ _ (by omega) ⟨i + 1, rfl, rfl, rfl, hil, fun x hx => ?_⟩
     rw [List.take_add_one, hc, Option.toList_some] at hx
     rcases List.mem_append.1 hx with hx | hx
     ·exact hall x hx
     ·simp at hx; subst hx; simp at hq3; omega
   ·have hil : i = l.length := by simp at hq2; omega
    rw [List.take_of_length_le (by omega)] at hall
    rw [if_pos ⟨h10, hall⟩] at H0
    exact H0
  ·have h10 : ¬ l.length < 10 := by simp at hq; omega
   rw [if_neg (fun hh => h10 hh.1)] at H0
   refine Join.mk fun K2 hK2 => PIf.yes rfl (hK2 _ _ (PIf.yes rfl H0))
 ·obtain ⟨el, hn64⟩ := getV0 hn
  have htl : t.length ≤ 8796093022208 := by rw [el] at hl; simp at hl; omega
  have hnx : nextL l = if 1048576 < n then (21, [], []) else if t.length < 4 + n then (20, [], [])
    else if t.take 4 = markL (crcL ((t.drop 4).take n)) then (0, (t.drop 4).take n, t.drop (4 + n)) else (21, [], []) := by unfold nextL; rw [hn]
  rw [hnx] at H0 H
  refine Join.mk fun K hK => PIf.no rfl (hK _ _ (PIf.no rfl ?_))
  refine Join.mk fun K2 hK2 => PIf.no rfl (hK2 _ _ ?_)
  refine PIf.intro (fun hq => ?_) (fun hq => ?_)
  ·have h1 : 1048576 < n := by simp at hq; omega
   rw [if_pos h1] at H0
   exact H0
  have h1 : ¬ 1048576 < n := by simp at hq; omega
  rw [if_neg h1] at H0 H
  rw [strL_size]
  refine Join.mk fun K3 hK3 => ?_
  have key : ∀ bb : Bool, (bb = true ↔ t.length < 4 + n) → K3 (bb, ()) h := fun bb hbb => by
   refine hK3 _ _ ?_
   refine PIf.intro (fun hq => ?_) (fun hq => ?_)
   ·rw [if_pos (hbb.1 hq)] at H0
    exact H0
   have h2 : ¬ t.length < 4 + n := fun hh => by have hq : bb = false := hq; rw [hbb.2 hh] at hq; cases hq
   rw [if_neg h2] at H0 H
   have e4 : IntKind.wrap .u64 ((4 : Int) + (n : Int)) = ((4 + n : Nat) : Int) := by rw [show (4 : Int) + (n : Int) = ((4 + n : Nat) : Int) by simp]; exact wrap_u64n (by omega)
   rw [e4]
   refine ⟨⟨by omega, by omega⟩, ⟨by omega, by omega⟩, ⟨by omega, by omega⟩, ?_⟩
   have eb : (strL t).extract (4 : Int).toNat ((4 + n : Nat) : Int).toNat = strL ((t.drop 4).take n) := by
    rw [show (4 : Int).toNat = 4 from rfl, Int.toNat_natCast, strL_mid, List.drop_take]; congr 2; omega
   have em : (strL t).extract 0 (4 : Int).toNat = strL (t.take 4) := strL_take _ _
   have er : (strL t).extract ((4 + n : Nat) : Int).toNat (strL t).size = strL (t.drop (4 + n)) := by rw [Int.toNat_natCast, strL_drop]
   rw [strL_size] at er
   rw [eb, em, er]
   refine fSum_ok (by simp; omega) ⟨_, rfl, ?_⟩
   refine fmark_ok fun h2 x2 => ⟨_, rfl, ?_⟩
   have H2 := H h2 x2
   rw [sEq_iff]
   refine PIf.intro (fun hq => ?_) (fun hq => ?_)
   ·rw [if_neg (by simp [strL_inj] at hq; exact hq)] at H2
    exact H2
   ·rw [if_pos (by simp [strL_inj] at hq; exact hq)] at H2
    exact ⟨⟨by omega, by omega⟩, H2⟩
  refine PIf.intro (fun hq => key _ ⟨fun _ => by simp at hq; omega, fun _ => rfl⟩) (fun hq => key _ ?_)
  have h4 : 4 ≤ t.length := by simp at hq; omega
  have e1 : IntKind.wrap .u64 (IntKind.wrap .i64 ((t.length : Int) - (4 : Int))) = ((t.length - 4 : Nat) : Int) := by
   rw [show (t.length : Int) - (4 : Int) = ((t.length - 4 : Nat) : Int) by omega, wrap_nat (by omega), wrap_u64n (by omega)]
  rw [e1]
  simp
  omega
end Go.Lf.G

