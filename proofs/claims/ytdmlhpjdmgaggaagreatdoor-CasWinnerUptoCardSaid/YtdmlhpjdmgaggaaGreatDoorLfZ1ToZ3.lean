/-
 What a store's files hold (chapter 9): plain law: segments, notes, tables, a crash.
-/
import Derived.Test.YtdmlhpjdmgaggaaGreatDoorLfM12ToX5
set_option linter.unusedVariables false
set_option linter.unusedSimpArgs false
set_option maxRecDepth 100000
set_option linter.unusedVariables false
set_option linter.unusedSimpArgs false
namespace Go.Lf.G
open Go
open M (Sorted Ah Df BL Al BF CZ Au OkL Bo)
abbrev Fls := ByteArray → Option (ByteArray × ByteArray)
abbrev nl : ByteArray := ⟨#[108]⟩
abbrev nn : ByteArray := ⟨#[110]⟩
abbrev nt : ByteArray := ⟨#[116]⟩
def tfN (n : Nat) : ByteArray := nt ++ Aa (Lib.decDigits n)
theorem RX (n : Nat) : bl (tfN n) = 116 :: Lib.decDigits n := by
 show (nt ++ Aa (Lib.decDigits n)).data.toList = _
 rw [ByteArray.data_append, Array.toList_append]
 show [116] ++ (Aa (Lib.decDigits n)).data.toList = _
 rw [show (Aa (Lib.decDigits n)).data.toList = Lib.decDigits n from Dk _]; rfl
theorem Gl {n k : Nat} (h : tfN n = tfN k) : n = k := by
 have h1 := congrArg bl h
 rw [RX, RX] at h1
 have h2 : Lib.decDigits n = Lib.decDigits k := by injection h1
 have h3 := (Sm n).2
 rw [h2, (Sm k).2] at h3
 exact h3.symm
theorem MM (n : Nat) : (bl (fnB nl n)).head? = some 108 := by rw [NS]; rfl
theorem O7 (n : Nat) : (bl (fnB nn n)).head? = some 110 := by rw [NS]; rfl
theorem Xo (n : Nat) : (bl (tfN n)).head? = some 116 := by rw [RX]; rfl
theorem Qa (n k : Nat) : fnB nl n ≠ fnB nn k := fun h => by have := MM n; rw [h, O7] at this; cases this
theorem Iy (n k : Nat) : fnB nl n ≠ tfN k := fun h => by have := MM n; rw [h, Xo] at this; cases this
theorem Kg (n k : Nat) : fnB nn n ≠ tfN k := fun h => by have := O7 n; rw [h, Xo] at this; cases this
def Mine (x : ByteArray) : Prop := (∃ n, x = fnB nl n) ∨ (∃ n, x = fnB nn n) ∨ ∃ n, x = tfN n
def Gr (F G : Fls) : Prop := ∀ x, match F x with
 | none => G x = none
 | some p => ∃ j, G x = if p.1 ++ p.2.extract 0 j = bs0 then none else some (p.1 ++ p.2.extract 0 j, bs0)
theorem ALQ (s : ByteArray) : s.extract 0 0 = bs0 := by
 have : (s.extract 0 0).size = 0 := by simp
 have h2 := LU (s.extract 0 0)
 have h3 : bl (s.extract 0 0) = [] := MC this
 rw [h3] at h2
 exact h2.symm
theorem AI7 (j : Nat) : bs0.extract 0 j = bs0 := by
 have : (bs0.extract 0 j).size = 0 := by
  have : bs0.size = 0 := rfl
  rw [ByteArray.size_extract]; omega
 have h2 := LU (bs0.extract 0 j)
 have h3 : bl (bs0.extract 0 j) = [] := MC this
 rw [h3] at h2
 exact h2.symm
theorem AHL (ks : List Int) (k : Nat) (f : Fi) : ∃ j, Me ks k f = f.firm ++ f.soft.extract 0 j := by
 unfold Me
 split
 ·rename_i h; exact ⟨0, by rw [ALQ, NT]⟩
 ·split
  ·exact ⟨_, rfl⟩
  ·exact ⟨0, by rw [ALQ, NT]⟩
theorem Xx {ks : List Int} : ∀ {l : List Fi} {k : Nat} (x : ByteArray), DZ l → match BP x l with
  | none => BP x (Cg ks k l) = none
  | some f => ∃ j, BP x (Cg ks k l) = if f.firm ++ f.soft.extract 0 j = bs0 then none else some ⟨f.name, f.firm ++ f.soft.extract 0 j, bs0⟩
 | [], k, x, _ => rfl
 | f :: l, k, x, s => by
  have s' := List.pairwise_cons.1 s
  have ih := Xx (ks := ks) (k := LP k f) x s'.2
  unfold Cg Yy
  rw [DL]
  by_cases hx : f.name = x
  ·rw [if_pos hx]
   obtain ⟨j, hj⟩ := AHL ks k f
   refine ⟨j, ?_⟩
   rw [← hj]
   by_cases hb : Me ks k f = bs0
   ·rw [if_pos hb, if_pos hb, List.nil_append]
    refine Vd (PO fun g hg e => ?_)
    exact Js (s'.1 g hg) (hx.trans e.symm)
   ·rw [if_neg hb, if_neg hb, List.singleton_append, DL, if_pos hx]
  ·rw [if_neg hx]
   by_cases hb : Me ks k f = bs0
   ·rw [if_pos hb, List.nil_append]; exact ih
   ·rw [if_neg hb, List.singleton_append, DL, if_neg hx]; exact ih
theorem ADn {m : Bx} (g : DK m) (ks : List Int) : Gr (ff m) (ff (Qw m ks)) := by
 intro x
 have h := Xx (ks := ks) (k := 0) x g.sorted
 cases hf : BP x m.files with
 | none =>
  rw [hf] at h
  have e : ff m x = none := by unfold ff; rw [hf]; rfl
  have h : BP x (Cg ks 0 m.files) = none := h
  rw [e]
  show (BP x (Cg ks 0 m.files)).map _ = none
  rw [h]; rfl
 | some f =>
  rw [hf] at h
  obtain ⟨j, hj⟩ := h
  have e : ff m x = some (f.firm, f.soft) := by unfold ff; rw [hf]; rfl
  rw [e]
  refine ⟨j, ?_⟩
  show (BP x (Cg ks 0 m.files)).map _ = _
  rw [hj]
  split <;> rfl
def Ju (a b : Option (ByteArray × ByteArray)) : Prop := b = a ∨ (a = some (bs0, bs0) ∧ b = none)
theorem Gr.firm {F G : Fls} (c : Gr F G) {x : ByteArray} (h : ∀ p, F x = some p → p.2 = bs0) : Ju (F x) (G x) := by
 have := c x
 cases hf : F x with
 | none => rw [hf] at this; exact .inl this
 | some p =>
  rw [hf] at this
  obtain ⟨j, hj⟩ := this
  have hp := h p hf
  obtain ⟨p1, p2⟩ := p
  simp only at hp
  subst hp
  simp only [AI7, NT] at hj
  by_cases h0 : p1 = bs0
  ·subst h0; rw [if_pos rfl] at hj; exact .inr ⟨rfl, hj⟩
  ·rw [if_neg h0] at hj; exact .inl hj
structure Q4 (F : Fls) (nm : ByteArray) (top : Nat) (R : Nat → List (List UInt8)) : Prop where
 has : ∀ n p, 1 ≤ n → n ≤ 99999999 → F (fnB nm n) = some p → p.2 = bs0 ∧ Jq (bl p.1) (R n)
 non : ∀ n, 1 ≤ n → n ≤ 99999999 → F (fnB nm n) = none → R n = []
 out : ∀ n, top ≤ n → n ≤ 99999999 → F (fnB nm n) = none
 far : ∀ n, (n = 0 ∨ top ≤ n) → R n = []
def Hl {α : Type} (R : Nat → α) (s : Nat) (v : α) : Nat → α := fun n => if n = s then v else R n
theorem CO {α : Type} {R : Nat → α} {s : Nat} {v : α} : Hl R s v s = v := if_pos rfl
theorem Da {α : Type} {R : Nat → α} {s n : Nat} {v : α} (h : n ≠ s) : Hl R s v n = R n := if_neg h
theorem We {rs : List (List UInt8)} (h : Jq [] rs) : rs = [] := h.uniq (.stop Ox)
theorem Q4.put {F G : Fls} {nm : ByteArray} {top top' : Nat} {R : Nat → List (List UInt8)} (h : Q4 F nm top R) {s : Nat} {v : List (List UInt8)} (hs : 1 ≤ s ∧ s ≤ 99999999) (ht : s < top') (hk : ∀ n, 1 ≤ n → n ≤ 99999999 → n ≠ s → Ju (F (fnB nm n)) (G (fnB nm n)))
  (hv : (G (fnB nm s) = none ∧ v = []) ∨ ∃ x, G (fnB nm s) = some (x, bs0) ∧ Jq (bl x) v) (htt : top ≤ top') : Q4 G nm top' (Hl R s v) := by
 refine ⟨fun n p n1 n9 hg => ?_, fun n n1 n9 hg => ?_, fun n hn n9 => ?_, fun n hn => ?_⟩
 ·by_cases e : n = s
  ·subst e
   rw [CO]
   rcases hv with ⟨h1, _⟩ | ⟨x, h1, h2⟩
   ·rw [h1] at hg; cases hg
   ·rw [h1] at hg; cases hg; exact ⟨rfl, h2⟩
  ·rw [Da e]
   rcases hk n n1 n9 e with h1 | ⟨h1, h2⟩
   ·exact h.has n p n1 n9 (h1 ▸ hg)
   ·rw [h2] at hg; cases hg
 ·by_cases e : n = s
  ·subst e
   rw [CO]
   rcases hv with ⟨_, h1⟩ | ⟨x, h1, _⟩
   ·exact h1
   ·rw [h1] at hg; cases hg
  ·rw [Da e]
   rcases hk n n1 n9 e with h1 | ⟨h1, h2⟩
   ·exact h.non n n1 n9 (h1 ▸ hg)
   ·obtain ⟨_, h3⟩ := h.has n _ n1 n9 h1
    exact We h3
 ·have e : n ≠ s := by omega
  rcases hk n (by omega) n9 e with h1 | ⟨h1, h2⟩
  ·rw [h1]; exact h.out n (by omega) n9
  ·exact h2
 ·have e : n ≠ s := by omega
  rw [Da e]; exact h.far n (by omega)
theorem Q4.keep {F G : Fls} {nm : ByteArray} {top : Nat} {R : Nat → List (List UInt8)} (h : Q4 F nm top R) (ht : 1 ≤ top) (hk : ∀ n, 1 ≤ n → n ≤ 99999999 → Ju (F (fnB nm n)) (G (fnB nm n))) : Q4 G nm top R := by
 refine ⟨fun n p n1 n9 hg => ?_, fun n n1 n9 hg => ?_, fun n hn n9 => ?_, h.far⟩
 ·rcases hk n (by omega) n9 with h1 | ⟨h1, h2⟩
  ·exact h.has n p n1 n9 (h1 ▸ hg)
  ·rw [h2] at hg; cases hg
 ·rcases hk n (by omega) n9 with h1 | ⟨h1, h2⟩
  ·exact h.non n n1 n9 (h1 ▸ hg)
  ·obtain ⟨_, h3⟩ := h.has n _ n1 n9 h1
   exact We h3
 ·rcases hk n (by omega) n9 with h1 | ⟨h1, h2⟩
  ·rw [h1]; exact h.out n hn n9
  ·exact h2
theorem Q4.up {F : Fls} {nm : ByteArray} {top top' : Nat} {R : Nat → List (List UInt8)} (h : Q4 F nm top R) (ht : top ≤ top') : Q4 F nm top' R :=
 ⟨h.has, h.non, fun n hn => h.out n (by omega), fun n hn => h.far n (by omega)⟩
theorem Q4.drop {F G : Fls} {nm : ByteArray} {top : Nat} {R R' : Nat → List (List UInt8)} (h : Q4 F nm top R) (hk : ∀ n, n ≤ 99999999 → (G (fnB nm n) = F (fnB nm n) ∧ R' n = R n) ∨ (G (fnB nm n) = none ∧ R' n = [])) (hf : ∀ n, (n = 0 ∨ top ≤ n) → R' n = []) : Q4 G nm top R' := by
 refine ⟨fun n p n1 n9 hg => ?_, fun n n1 n9 hg => ?_, fun n hn n9 => ?_, hf⟩
 ·rcases hk n n9 with ⟨h1, h2⟩ | ⟨h1, h2⟩
  ·rw [h2]; exact h.has n p n1 n9 (h1 ▸ hg)
  ·rw [h1] at hg; cases hg
 ·rcases hk n n9 with ⟨h1, h2⟩ | ⟨h1, h2⟩
  ·rw [h2]; exact h.non n n1 n9 (h1 ▸ hg)
  ·exact h2
 ·rcases hk n n9 with ⟨h1, h2⟩ | ⟨h1, h2⟩
  ·rw [h1]; exact h.out n hn n9
  ·exact h1
theorem AGA {rs : List (List UInt8)} {r : List UInt8} (hs : ∀ x ∈ rs ++ [r], x.length ≤ 1048576) (j : Nat) : Jq (bl (Aa (wraps rs) ++ (Aa (Bt r)).extract 0 j)) rs ∨ Jq (bl (Aa (wraps rs) ++ (Aa (Bt r)).extract 0 j)) (rs ++ [r]) := by
 have e : bl (Aa (wraps rs) ++ (Aa (Bt r)).extract 0 j) = wraps rs ++ (Bt r).take j := by
  show (Aa (wraps rs) ++ (Aa (Bt r)).extract 0 j).data.toList = _
  rw [ByteArray.data_append, Array.toList_append, ByteArray.data_extract, Array.toList_extract]
  rw [show (Aa (wraps rs)).data.toList = wraps rs from Dk _, show (Aa (Bt r)).data.toList = Bt r from Dk _]
  simp
 rw [e]
 by_cases hj : j < (Bt r).length
 ·exact .inl (Ng (fun x hx => hs x (by simp [hx])) (AGZ (hs r (by simp)) hj))
 ·right
  rw [List.take_of_length_le (by omega)]
  have := Ng (rs := rs ++ [r]) hs (t := []) Ox
  simpa using this
structure Nt where
 next : Nat
 frm : Nat
 names : List Nat
def Ck (x : Nt) : List UInt8 := CG x.next ++ CG x.frm ++ CG x.names.length ++ x.names.flatMap CG
structure Wn (x : Nt) : Prop where
 next : x.next ≤ 99999999
 frm : 1 ≤ x.frm ∧ x.frm ≤ 99999999
 cnt : x.names.length ≤ 60000
 below : ∀ n ∈ x.names, n < x.next
 nd : x.names.Nodup
structure TJ (b : List Pr) : Prop where
 len : b.length ≤ 64
 ok : ∀ x ∈ b, Ih x
theorem QF : ∀ {l : List Nat}, (∀ n ∈ l, n ≤ 99999999) → (l.flatMap CG).length ≤ l.length * 10
 | [], _ => by simp
 | n :: l, h => by
  have h1 := Ai (n := n) (by have := h n (by simp); omega)
  have h2 := QF (l := l) fun k hk => h k (List.mem_cons_of_mem _ hk)
  simp only [List.flatMap_cons, List.length_append, List.length_cons]; omega
theorem ACc {x : Nt} (h : Wn x) : (Ck x).length ≤ 30 + x.names.length * 10 := by
 have h1 := Ai (n := x.next) (by have := h.next; omega)
 have h2 := Ai (n := x.frm) (by have := h.frm; omega)
 have h3 := Ai (n := x.names.length) (by have := h.cnt; omega)
 have h4 := QF (l := x.names) fun n hn => by have := h.below n hn; have := h.next; omega
 simp only [Ck, List.length_append]; omega
theorem Uf {s : Nat} {b : List Pr} (hs : s ≤ 99999999) (h : TJ b) : (Ay s b).length ≤ 20 + 64 * 8276 := by
 have h1 := Ai (n := s) (by omega)
 have h2 := Ai (n := b.length) (by have := h.len; omega)
 have h3 := I6 h.ok
 have h4 := h.len
 have h5 : b.length * 8276 ≤ 64 * 8276 := Nat.mul_le_mul_right _ h4
 simp only [Ay, List.length_append]; omega
structure BK where
 L : Nat → List (List Pr)
 N : Nat → List Nt
 T : Nat → List Pr
 ltop : Nat
 ntop : Nat
def Jd (D : BK) : List Nt := (List.range D.ntop).flatMap D.N
def Ac (D : BK) : Nt := (Jd D).getLast?.getD ⟨1, 1, []⟩
def FX (D : BK) : List (List Pr) := (List.range D.ltop).flatMap fun n => if n < (Ac D).frm then [] else D.L n
def Cz (D : BK) : List Pr := BL [] (FX D).flatten
def mapD (D : BK) : List Pr := Bo (Al (Cz D :: (Ac D).names.map D.T))
structure Ap (F : Fls) (D : BK) : Prop where
 log : Q4 F nl D.ltop fun n => (D.L n).map (Ay n)
 note : Q4 F nn D.ntop fun n => (D.N n).map Ck
 tab : ∀ n ∈ (Ac D).names, F (tfN n) = some (Aa (Gs (D.T n)), bs0) ∧ Eu (D.T n)
 bat : ∀ n b, b ∈ D.L n → TJ b
 nts : ∀ n x, x ∈ D.N n → Wn x
 tonly : ∀ x, F x ≠ none → (bl x).head? = some 116 → ∃ n, x = tfN n
 tops : 1 ≤ D.ltop ∧ D.ltop ≤ 99999999 ∧ 1 ≤ D.ntop ∧ D.ntop ≤ 99999999
theorem ACf {F : Fls} {D : BK} (h : Ap F D) : Wn (Ac D) := by
 unfold Ac
 cases hl : (Jd D).getLast? with
 | none => exact ⟨by simp, by simp, by simp, by simp, by simp⟩
 | some x =>
  have := List.mem_of_getLast? hl
  obtain ⟨n, _, hn⟩ := List.mem_flatMap.1 this
  exact h.nts n x hn
theorem AKx {l : List Pr} (t : Eu l) : Aa (Gs l) ≠ bs0 := fun h4 => by
 have h5 : Gs l = [] := by
  have := congrArg bl h4
  rw [HV] at this
  exact this
 have h6 : framesT l (JS l) ≠ [] := by simp [framesT]
 unfold Gs at h5
 cases hfr : framesT l (JS l) with
 | nil => exact h6 hfr
 | cons r rs =>
  rw [hfr] at h5
  have h7 : (Bt r).length = 0 := by
   have h8 := congrArg List.length h5
   rw [RA, List.length_append] at h8
   simp at h8
   simp [h8.1]
  have h9 := (Fa (r := r) (KA t.tabS r (by rw [hfr]; simp))).1
  omega
theorem QC {a b : Option (ByteArray × ByteArray)} {l : List Pr} (k : Ju a b) (t : Eu l) (h : a = some (Aa (Gs l), bs0)) : b = some (Aa (Gs l), bs0) := by
 rcases k with h3 | ⟨h3, _⟩
 ·exact h3.trans h
 ·rw [h] at h3
  injection h3 with h3
  exact absurd (Prod.mk.inj h3).1 (AKx t)
theorem Ap.same {F G : Fls} {D : BK} (h : Ap F D) (hl : ∀ n, 1 ≤ n → n ≤ 99999999 → Ju (F (fnB nl n)) (G (fnB nl n))) (hn : ∀ n, 1 ≤ n → n ≤ 99999999 → Ju (F (fnB nn n)) (G (fnB nn n))) (ht : ∀ n ∈ (Ac D).names, Ju (F (tfN n)) (G (tfN n)))
  (ho : ∀ x, G x ≠ none → F x ≠ none ∨ ∃ n, x = tfN n) : Ap G D := by
 refine ⟨h.log.keep h.tops.1 hl, h.note.keep h.tops.2.2.1 hn, fun n hm => ?_, h.bat, h.nts, fun x hx hd => ?_, h.tops⟩
 ·obtain ⟨h1, h2⟩ := h.tab n hm
  exact ⟨QC (ht n hm) h2 h1, h2⟩
 ·rcases ho x hx with h1 | h1
  ·exact h.tonly x h1 hd
  ·exact h1
theorem Ap.crash {F G : Fls} {D : BK} (h : Ap F D) (c : Gr F G) : Ap G D := by
 refine h.same (fun n n1 n9 => c.firm fun p hp => (h.log.has n p n1 n9 hp).1) (fun n n1 n9 => c.firm fun p hp => (h.note.has n p n1 n9 hp).1) (fun n hm => c.firm fun p hp => ?_) fun x hx => .inl fun hf => hx ?_
 ·rw [(h.tab n hm).1] at hp; cases hp; rfl
 ·have := c x; rw [hf] at this; exact this
end Go.Lf.G

/-
 What a store tells (chapter 9): plain law: batches, tables one behind the other, what lives.
-/
set_option maxRecDepth 100000
set_option linter.unusedVariables false
set_option linter.unusedSimpArgs false
namespace Go.Lf.G
open Go
open M (Sorted Ah Df BL Al BF CZ Au OkL Bo atK Br TE)
theorem AHv {x : Pr} (h : Ih x) : Au x = 0 := by
 have h1 : x.key ≠ (⟨#[]⟩ : ByteArray) := fun e => h.key (by rw [e]; rfl)
 have h2 := h.keyMost
 have h3 := h.valMost
 unfold M.Au
 rw [if_neg ?_, if_neg ?_]
 ·simp only [Bool.or_eq_true, decide_eq_true_eq]; omega
 ·simp only [Bool.or_eq_true, Bool.and_eq_true, decide_eq_true_eq, Bool.not_eq_true', decide_eq_false_iff_not]
  rintro (h4 | ⟨h4, h5⟩)
  ·exact h1 h4
  ·exact h5 (UN (h.gone h4))
theorem AF8 {x : Pr} (h : Au x = 0) : Ih x := by
 unfold M.Au at h
 split at h
 ·cases h
 ·rename_i h1
  split at h
  ·cases h
  ·rename_i h2
   simp only [Bool.or_eq_true, Bool.and_eq_true, decide_eq_true_eq, Bool.not_eq_true', decide_eq_false_iff_not, not_or, not_and, Decidable.not_not] at h1 h2
   refine ⟨fun e => h1.1 (UN e), by omega, by omega, fun hg => ?_⟩
   rw [h1.2 hg]; rfl
theorem ACY {l : List Pr} (h : ∀ x ∈ l, Ih x) : CZ l := fun x hx => AHv (h x hx)
theorem Zi (k : ByteArray) : ∀ {b t : List Pr}, Sorted t → CZ b → Ah k (BL t b) = (Ah k b.reverse).or (Ah k t)
 | [], t, _, _ => rfl
 | x :: b, t, s, g => by
  have gx := g x (by simp)
  show Ah k (BL (Df x t) b) = _
  rw [Zi k (M.LM s) fun y hy => g y (List.mem_cons_of_mem _ hy), List.reverse_cons, M.Sq, M.MR gx, M.Rz x k s, M.Av]
  cases Ah k b.reverse with
  | some p => rfl
  | none =>
   by_cases h : x.key = k
   ·rw [if_pos h, if_pos h]; rfl
   ·rw [if_neg h, if_neg h]; rfl
def alive (o : Option Pr) : Option Pr := o.filter fun p => !p.gone
theorem HZ (x : Pr) : alive (some x) = if x.gone then none else some x := by
 unfold alive
 cases hg : x.gone <;> simp [Option.filter, hg]
theorem Tp (k : ByteArray) : ∀ {l : List Pr}, Sorted l → Ah k (Bo l) = alive (Ah k l)
 | [], _ => rfl
 | x :: l, s => by
  have s' := List.pairwise_cons.1 s
  have ih := Tp k s'.2
  unfold M.Bo at ih ⊢
  rw [List.filter_cons, M.Av]
  by_cases hk : x.key = k
  ·rw [if_pos hk]
   cases hg : x.gone with
   | false => rw [if_pos (by rfl), M.Av, if_pos hk, HZ, hg]; rfl
   | true =>
    rw [if_neg (by simp), ih]
    have : Ah k l = none := M.FM fun y hy e => M.Js (s'.1 y hy) (hk.trans e.symm)
    rw [this, HZ, hg]; rfl
  ·rw [if_neg hk]
   cases hg : x.gone with
   | false => rw [if_pos (by rfl), M.Av, if_neg hk]; exact ih
   | true => rw [if_neg (by simp)]; exact ih
theorem PT {l : List Pr} (s : Sorted l) : Sorted (Bo l) := s.sublist List.filter_sublist
def Ip (fr : List Pr) (ts : List (List Pr)) : List Pr := Bo (Al (fr :: ts))
theorem DY (fr : List Pr) (ts : List (List Pr)) : Sorted (Ip fr ts) := PT (M.Ci _)
theorem Ed (k : ByteArray) {fr : List Pr} {ts : List (List Pr)} (o : OkL (fr :: ts)) : Ah k (Ip fr ts) = alive ((Ah k fr).or (BF k ts)) := by
 unfold Ip
 rw [Tp k (M.Ci _), M.Gv k o, M.Ct]
def wr1 (m : List Pr) (p : Pr) : List Pr := m.take (atK p.key m) ++ (if p.gone then [] else [p]) ++ m.drop (if Br p.key m then atK p.key m + 1 else atK p.key m)
def wrL (m b : List Pr) : List Pr := b.foldl wr1 m
theorem Oe (k : ByteArray) (x : Pr) (l : List Pr) : atK k (x :: l) = if sLt x.key k then atK k l + 1 else 0 := by
 unfold M.atK M.Yr; rw [List.takeWhile_cons]; split <;> simp
theorem Wm (k : ByteArray) (x : Pr) (l : List Pr) : Br k (x :: l) = if sLt x.key k then Br k l else decide (x.key = k) := by
 unfold M.Br; rw [Oe]; by_cases h : sLt x.key k = true <;> simp [h]
def AGv (k : ByteArray) (l : List Pr) : List Pr := l.filter fun q => !decide (q.key = k)
theorem AFg {k : ByteArray} : ∀ {l : List Pr}, Sorted l → l.take (atK k l) ++ l.drop (if Br k l then atK k l + 1 else atK k l) = AGv k l
 | [], _ => by simp [AGv]
 | x :: l, s => by
  have s' := List.pairwise_cons.1 s
  have ih := AFg (k := k) s'.2
  unfold AGv at ih ⊢
  rw [Oe, Wm, List.filter_cons]
  by_cases hx : sLt x.key k = true
  ·have hne : x.key ≠ k := M.Js hx
   have e1 : (!decide (x.key = k)) = true := by simp [hne]
   simp only [hx, if_true, e1, List.take_succ_cons, List.cons_append]
   rw [← ih]
   cases ht : Br k l <;> simp
  ·rw [if_neg hx, if_neg hx, List.take_zero, List.nil_append]
   have hrest : l.filter (fun q => !decide (q.key = k)) = l := by
    refine List.filter_eq_self.2 fun y hy => ?_
    have h1 := s'.1 y hy
    by_cases e : y.key = k
    ·rw [e] at h1; exact absurd h1 hx
    ·simp [e]
   by_cases hk : x.key = k
   ·rw [if_pos (by simp [hk]), if_neg (by simp [hk]), hrest]; rfl
   ·rw [if_neg (by simp [hk]), if_pos (by simp [hk]), hrest]; rfl
theorem AIj {m : List Pr} (s : Sorted m) (p : Pr) : wr1 m p = if p.gone then AGv p.key m else M.ins p m := by
 unfold wr1
 cases hg : p.gone with
 | true => simp only [if_true, List.append_nil]; exact AFg s
 | false =>
  simp only [Bool.false_eq_true, if_false]
  have := M.Vz p m
  unfold M.TE at this
  exact this
theorem AH5 (k k' : ByteArray) (m : List Pr) : Ah k (AGv k' m) = if k' = k then none else Ah k m := by
 unfold AGv
 induction m with
 | nil => split <;> rfl
 | cons x m ih =>
  rw [List.filter_cons, M.Av]
  by_cases hx : x.key = k'
  ·rw [if_neg (by simp [hx]), ih]
   by_cases hk : k' = k
   ·rw [if_pos hk, if_pos hk]
   ·rw [if_neg hk, if_neg hk, if_neg (fun e => hk (hx.symm.trans e))]
  ·rw [if_pos (by simp [hx]), M.Av, ih]
   by_cases hk : x.key = k
   ·rw [if_pos hk, if_pos hk, if_neg (fun e => hx (hk.trans e.symm))]
   ·rw [if_neg hk, if_neg hk]
theorem Xr {m : List Pr} (s : Sorted m) (p : Pr) : Sorted (wr1 m p) := by
 rw [AIj s]
 split
 ·exact s.sublist List.filter_sublist
 ·exact M.Qp p s
theorem ACT {m : List Pr} (s : Sorted m) (p : Pr) (k : ByteArray) : Ah k (wr1 m p) = if p.key = k then alive (some p) else Ah k m := by
 rw [AIj s]
 cases hg : p.gone with
 | true => rw [if_pos rfl, AH5, HZ, hg]; rfl
 | false => rw [if_neg (by simp), M.Rz p k s, HZ, hg]; rfl
theorem Q7 : ∀ {b m : List Pr}, Sorted m → Sorted (wrL m b)
 | [], _, s => s
 | p :: b, m, s => Q7 (b := b) (Xr s p)
theorem ACq (k : ByteArray) : ∀ {b m : List Pr}, Sorted m → Ah k (wrL m b) = match Ah k b.reverse with | some p => alive (some p) | none => Ah k m
 | [], _, _ => rfl
 | p :: b, m, s => by
  show Ah k (wrL (wr1 m p) b) = _
  rw [ACq k (Xr s p), List.reverse_cons, M.Sq, M.Av]
  cases Ah k b.reverse with
  | some q => rfl
  | none =>
   rw [ACT s]
   by_cases h : p.key = k
   ·rw [if_pos h, if_pos h]; rfl
   ·rw [if_neg h, if_neg h]; rfl
theorem VG {fr b : List Pr} {ts : List (List Pr)} (o : OkL (fr :: ts)) (g : CZ b) : Ip (BL fr b) ts = wrL (Ip fr ts) b := by
 have sf := o.sorted fr (by simp)
 have o2 : OkL (BL fr b :: ts) := ⟨fun l hl => by
   rcases List.mem_cons.1 hl with rfl | hl
   ·exact M.Nv sf
   ·exact o.sorted l (by simp [hl]), fun l hl => by
   rcases List.mem_cons.1 hl with rfl | hl
   ·exact M.RD (o.good fr (by simp))
   ·exact o.good l (by simp [hl])⟩
 refine (DY _ _).ext (Q7 (DY _ _)) fun k => ?_
 rw [Ed k o2, Zi k sf g, ACq k (DY _ _), Ed k o]
 cases Ah k b.reverse with
 | some p => rfl
 | none => rfl
theorem OkL.nil_cons {ts : List (List Pr)} (o : OkL ts) : OkL ([] :: ts) := ⟨fun l hl => by
  rcases List.mem_cons.1 hl with rfl | hl
  ·exact List.Pairwise.nil
  ·exact o.sorted l hl, fun l hl => by
  rcases List.mem_cons.1 hl with rfl | hl
  ·exact fun _ h => by cases h
  ·exact o.good l hl⟩
theorem OkL.tail {l : List Pr} {ts : List (List Pr)} (o : OkL (l :: ts)) : OkL ts := ⟨fun x hx => o.sorted x (by simp [hx]), fun x hx => o.good x (by simp [hx])⟩
theorem AB6 {fr : List Pr} {ts : List (List Pr)} (o : OkL (fr :: ts)) : Ip [] (fr :: ts) = Ip fr ts := by
 refine (DY _ _).ext (DY _ _) fun k => ?_
 rw [Ed k (OkL.nil_cons o), Ed k o, M.Ct]
 rfl
theorem ADF (a b : Option Pr) : alive (a.or (alive b)) = alive (a.or b) := by
 cases a with
 | some p => rfl
 | none =>
  cases b with
  | none => rfl
  | some q => cases hg : q.gone <;> simp [HZ, hg, alive]
def EQ (ts : List (List Pr)) : List Pr := Bo (Al ts)
theorem Vp {ts : List (List Pr)} : Sorted (EQ ts) ∧ CZ (EQ ts) := ⟨PT (M.Ci _), fun x hx => M.TA _ x (List.mem_filter.1 hx).1⟩
theorem OkL.left {fr : List Pr} {ts : List (List Pr)} (o : OkL (fr :: ts)) : OkL [fr, EQ ts] := ⟨fun l hl => by
  rcases List.mem_cons.1 hl with rfl | hl
  ·exact o.sorted _ (by simp)
  ·rw [List.mem_singleton.1 hl]; exact Vp.1, fun l hl => by
  rcases List.mem_cons.1 hl with rfl | hl
  ·exact o.good _ (by simp)
  ·rw [List.mem_singleton.1 hl]; exact Vp.2⟩
theorem Qf {fr : List Pr} {ts : List (List Pr)} (o : OkL (fr :: ts)) : Ip fr [EQ ts] = Ip fr ts := by
 refine (DY _ _).ext (DY _ _) fun k => ?_
 rw [Ed k (OkL.left o), Ed k o, M.Ct]
 have : Ah k (EQ ts) = alive (BF k ts) := by
  unfold EQ
  rw [Tp k (M.Ci _), M.Gv k (OkL.tail o)]
 rw [this]
 have h2 : BF k ([] : List (List Pr)) = none := rfl
 rw [h2, Option.or_none, ADF]
theorem V6 {fr : List Pr} {ts : List (List Pr)} (o : OkL (fr :: ts)) (h : EQ ts = []) : Ip fr [] = Ip fr ts := by
 rw [← Qf o, h]
 have o1 : OkL [fr] := ⟨fun l hl => by rw [List.mem_singleton.1 hl]; exact o.sorted _ (by simp), fun l hl => by rw [List.mem_singleton.1 hl]; exact o.good _ (by simp)⟩
 have o2 : OkL [fr, []] := by have := OkL.left o; rw [h] at this; exact this
 refine (DY _ _).ext (DY _ _) fun k => ?_
 rw [Ed k o1, Ed k o2, M.Ct]
 rfl
theorem TY (l : List Pr) : (Bo l).length ≤ l.length := (List.filter_sublist).length_le
end Go.Lf.G

/-
 A store's files, step by step (chapter 9): plain law.
-/
set_option maxRecDepth 100000
set_option linter.unusedVariables false
set_option linter.unusedSimpArgs false
namespace Go.Lf.G
open Go
open M (Sorted Ah Df BL Al BF CZ Au OkL Bo)
theorem O4 {α : Type} {R : Nat → List α} {t : Nat} : ∀ {t' : Nat}, t ≤ t' → (∀ n, t ≤ n → n < t' → R n = []) → (List.range t').flatMap R = (List.range t).flatMap R
 | 0, h, _ => by
  have : t = 0 := by omega
  rw [this]
 | t' + 1, h, hr => by
  by_cases e : t = t' + 1
  ·rw [e]
  ·rw [List.range_succ, List.flatMap_append, O4 (t' := t') (by omega) fun n h1 h2 => hr n h1 (by omega)]
   rw [List.flatMap_cons, hr t' (by omega) (by omega)]; simp
theorem Tw {α : Type} {R : Nat → List α} {s t : Nat} (hs : s < t) (hr : ∀ n, s < n → R n = []) : (List.range t).flatMap R = (List.range s).flatMap R ++ R s := by
 rw [O4 (t := s + 1) (by omega) fun n h1 _ => hr n (by omega), List.range_succ, List.flatMap_append]
 simp
theorem WF {α : Type} {R R' : Nat → List α} {t : Nat} (h : ∀ n, n < t → R n = R' n) : (List.range t).flatMap R = (List.range t).flatMap R' := by
 unfold List.flatMap
 congr 1
 exact List.map_congr_left fun n hn => h n (List.mem_range.1 hn)
theorem ABT {D : BK} {s : Nat} {l : List Nt} {x : Nt} (h : D.N s = l ++ [x]) (hn : ∀ n, s < n → D.N n = []) (ht : s < D.ntop) : Ac D = x := by
 unfold Ac Jd
 rw [Tw ht hn, h, ← List.append_assoc, List.getLast?_concat]; rfl
theorem Ap.farL {F : Fls} {D : BK} (h : Ap F D) {n : Nat} (hn : n = 0 ∨ D.ltop ≤ n) : D.L n = [] := by simpa using h.log.far n hn
theorem Ap.farN {F : Fls} {D : BK} (h : Ap F D) {n : Nat} (hn : n = 0 ∨ D.ntop ≤ n) : D.N n = [] := by simpa using h.note.far n hn
theorem Ap.nonL {F : Fls} {D : BK} (h : Ap F D) {n : Nat} (hn : n ≤ 99999999) (hf : F (fnB nl n) = none) : D.L n = [] := by
 by_cases e : n = 0
 ·exact h.farL (.inl e)
 ·simpa using h.log.non n (by omega) hn hf
theorem Ap.nonN {F : Fls} {D : BK} (h : Ap F D) {n : Nat} (hn : n ≤ 99999999) (hf : F (fnB nn n) = none) : D.N n = [] := by
 by_cases e : n = 0
 ·exact h.farN (.inl e)
 ·simpa using h.note.non n (by omega) hn hf
theorem ACP (t a b : List Pr) : BL t (a ++ b) = BL (BL t a) b := List.foldl_append
theorem AC6 : CZ ([] : List Pr) := fun _ h => by cases h
theorem AEG : Sorted ([] : List Pr) := List.Pairwise.nil
theorem AB8 (D : BK) : Sorted (Cz D) ∧ CZ (Cz D) := ⟨M.Nv AEG, M.RD AC6⟩
theorem Eu.good {l : List Pr} (t : Eu l) : Sorted l ∧ CZ l := ⟨t.inc, ACY t.ok⟩
theorem Ap.okL {F : Fls} {D : BK} (h : Ap F D) : OkL (Cz D :: (Ac D).names.map D.T) := by
 refine ⟨fun l hl => ?_, fun l hl => ?_⟩ <;> rcases List.mem_cons.1 hl with rfl | hl
 ·exact (AB8 D).1
 ·obtain ⟨n, hn, rfl⟩ := List.mem_map.1 hl
  exact (h.tab n hn).2.good.1
 ·exact (AB8 D).2
 ·obtain ⟨n, hn, rfl⟩ := List.mem_map.1 hl
  exact (h.tab n hn).2.good.2
def OM (D : BK) (s : Nat) (b : List Pr) : BK := { D with L := Hl D.L s (D.L s ++ [b]), ltop := max D.ltop (s + 1) }
theorem Zk {F : Fls} {D : BK} (h : Ap F D) {s : Nat} {b : List Pr} (hs : (Ac D).frm ≤ s) (hn : ∀ n, s < n → D.L n = []) : FX (OM D s b) = FX D ++ [b] := by
 have hst : s < max D.ltop (s + 1) := by omega
 have e1 : FX D = (List.range s).flatMap (fun n => if n < (Ac D).frm then [] else D.L n) ++ D.L s := by
  have e0 : FX D = (List.range (max D.ltop (s + 1))).flatMap fun n => if n < (Ac D).frm then [] else D.L n := by
   refine (O4 (by omega) fun n h1 h2 => ?_).symm
   split
   ·rfl
   ·exact h.farL (.inr h1)
  rw [e0, Tw (s := s) hst (fun n hn' => by
   split
   ·rfl
   ·exact hn n hn'), if_neg (by omega)]
 have e2 : FX (OM D s b) = (List.range s).flatMap (fun n => if n < (Ac D).frm then [] else Hl D.L s (D.L s ++ [b]) n) ++ Hl D.L s (D.L s ++ [b]) s := by
  show (List.range (max D.ltop (s + 1))).flatMap (fun n => if n < (Ac D).frm then [] else Hl D.L s (D.L s ++ [b]) n) = _
  rw [Tw (s := s) hst (fun n hn' => by
   split
   ·rfl
   ·rw [Da (by omega)]; exact hn n hn'), if_neg (by omega)]
 rw [e1, e2, CO, List.append_assoc]
 congr 1
 exact WF fun n hn' => by rw [Da (by omega)]
theorem AII {F : Fls} {D : BK} (h : Ap F D) {s : Nat} {b : List Pr} (hs : (Ac D).frm ≤ s) (hn : ∀ n, s < n → D.L n = []) (hb : TJ b) : Cz (OM D s b) = BL (Cz D) b ∧ mapD (OM D s b) = wrL (mapD D) b := by
 have e : Cz (OM D s b) = BL (Cz D) b := by
  unfold Cz
  rw [Zk h hs hn, List.flatten_append, ACP]
  simp
 refine ⟨e, ?_⟩
 have := VG h.okL (ACY hb.ok)
 unfold mapD
 rw [e]
 exact this
theorem AJ6 {F G : Fls} {D : BK} (h : Ap F D) {s : Nat} {b : List Pr} (hs : 1 ≤ s ∧ s + 1 ≤ 99999999) (hb : TJ b) (hl : ∀ n, 1 ≤ n → n ≤ 99999999 → n ≠ s → Ju (F (fnB nl n)) (G (fnB nl n))) (hn : ∀ n, 1 ≤ n → n ≤ 99999999 → Ju (F (fnB nn n)) (G (fnB nn n)))
  (ht : ∀ n, Ju (F (tfN n)) (G (tfN n))) (ho : ∀ x, (∀ n, x ≠ fnB nl n) → G x ≠ none → F x ≠ none) (hv : ∃ x, G (fnB nl s) = some (x, bs0) ∧ Jq (bl x) ((D.L s ++ [b]).map (Ay s))) : Ap G (OM D s b) := by
 have ht' : ∀ n ∈ (Ac D).names, G (tfN n) = some (Aa (Gs (D.T n)), bs0) ∧ Eu (D.T n) := fun n hm =>
  let ⟨h1, h2⟩ := h.tab n hm
  ⟨QC (ht n) h2 h1, h2⟩
 refine ⟨?_, ?_, ht', fun n c hc => ?_, h.nts, fun x hx hd => ?_, by have := h.tops; refine ⟨?_, ?_, this.2.2.1, this.2.2.2⟩ <;> simp only [OM] <;> omega⟩
 ·have := h.log.put (G := G) (top' := max D.ltop (s + 1)) (s := s) (v := (D.L s ++ [b]).map (Ay s)) ⟨hs.1, by omega⟩ (by omega) (fun n n1 n9 hne => hl n n1 n9 hne) (.inr hv) (by omega)
  have e : (Hl (fun n => (D.L n).map (Ay n)) s ((D.L s ++ [b]).map (Ay s))) = fun n => ((OM D s b).L n).map (Ay n) := by
   funext n
   show _ = (Hl D.L s (D.L s ++ [b]) n).map (Ay n)
   by_cases e : n = s
   ·subst e; rw [CO, CO]
   ·rw [Da e, Da e]
  rw [e] at this
  exact this
 ·exact h.note.keep h.tops.2.2.1 hn
 ·by_cases e : n = s
  ·subst e
   have hc : c ∈ Hl D.L n (D.L n ++ [b]) n := hc
   rw [CO] at hc
   rcases List.mem_append.1 hc with hc | hc
   ·exact h.bat n c hc
   ·rw [List.mem_singleton.1 hc]; exact hb
  ·have hc : c ∈ Hl D.L s (D.L s ++ [b]) n := hc
   rw [Da e] at hc
   exact h.bat n c hc
 ·exact h.tonly x (ho x (fun n e => by rw [e, MM] at hd; cases hd) hx) hd
def addN (D : BK) (s : Nat) (x : Nt) (T : Nat → List Pr) : BK := { D with N := Hl D.N s [x], T := T, ntop := max D.ntop (s + 1) }
theorem AAT {D : BK} {s : Nat} {x : Nt} {T : Nat → List Pr} (hn : ∀ n, s < n → D.N n = []) : Ac (addN D s x T) = x := by
 refine ABT (s := s) (l := []) ?_ (fun n h => ?_) ?_
 ·show Hl D.N s [x] s = _
  rw [CO]; rfl
 ·show Hl D.N s [x] n = []
  rw [Da (by omega)]; exact hn n h
 ·show s < max D.ntop (s + 1)
  omega
theorem AFG {F G : Fls} {D : BK} (h : Ap F D) {s : Nat} {x : Nt} {T : Nat → List Pr} (hs : 1 ≤ s ∧ s + 1 ≤ 99999999) (hx : Wn x) (hn0 : ∀ n, s < n → D.N n = []) (hl : ∀ n, 1 ≤ n → n ≤ 99999999 → Ju (F (fnB nl n)) (G (fnB nl n))) (hn : ∀ n, 1 ≤ n → n ≤ 99999999 → n ≠ s → Ju (F (fnB nn n)) (G (fnB nn n)))
  (ht : ∀ n ∈ x.names, G (tfN n) = some (Aa (Gs (T n)), bs0) ∧ Eu (T n)) (ho : ∀ x, (∀ n, x ≠ fnB nn n) → (∀ n, x ≠ tfN n) → G x ≠ none → F x ≠ none) (hv : ∃ y, G (fnB nn s) = some (y, bs0) ∧ Jq (bl y) [Ck x]) : Ap G (addN D s x T) := by
 refine ⟨h.log.keep h.tops.1 hl, ?_, fun n hm => ?_, h.bat, fun n y hy => ?_, fun y hy hd => ?_, by have := h.tops; refine ⟨this.1, this.2.1, ?_, ?_⟩ <;> simp only [addN] <;> omega⟩
 ·have := h.note.put (G := G) (top' := max D.ntop (s + 1)) (s := s) (v := [Ck x]) ⟨hs.1, by omega⟩ (by omega) (fun n n1 n9 hne => hn n n1 n9 hne) (.inr hv) (by omega)
  have e : (Hl (fun n => (D.N n).map Ck) s [Ck x]) = fun n => ((addN D s x T).N n).map Ck := by
   funext n
   show _ = (Hl D.N s [x] n).map Ck
   by_cases e : n = s
   ·subst e; rw [CO, CO]; rfl
   ·rw [Da e, Da e]
  rw [e] at this
  exact this
 ·rw [AAT hn0] at hm
  exact ht n hm
 ·have hy : y ∈ Hl D.N s [x] n := hy
  by_cases e : n = s
  ·rw [e, CO] at hy
   rw [List.mem_singleton.1 hy]; exact hx
  ·rw [Da e] at hy; exact h.nts n y hy
 ·by_cases e : ∃ n, y = tfN n
  ·exact e
  ·exact h.tonly y (ho y (fun n e => by rw [e, O7] at hd; cases hd) (fun n e' => e ⟨n, e'⟩) hy) hd
theorem Ap.tput {F G : Fls} {D : BK} (h : Ap F D) (hk : ∀ x, (∀ n, n ∉ (Ac D).names → x ≠ tfN n) → G x = F x) : Ap G D := by
 refine h.same (fun n _ _ => .inl (hk _ fun k _ => Iy n k)) (fun n _ _ => .inl (hk _ fun k _ => Kg n k)) (fun n hn => .inl (hk _ fun k hk' e => hk' (by rw [← Gl e]; exact hn))) fun x hx => ?_
 by_cases e : ∃ n, x = tfN n
 ·exact .inr e
 ·exact .inl (by rw [← hk x fun n _ e' => e ⟨n, e'⟩]; exact hx)
open Classical in
noncomputable def Jt (D : BK) (G : Fls) : BK := { D with L := fun n => if n ≤ 99999999 ∧ G (fnB nl n) = none then [] else D.L n }
open Classical in
noncomputable def AFo (D : BK) (G : Fls) : BK := { D with N := fun n => if n ≤ 99999999 ∧ G (fnB nn n) = none then [] else D.N n }
theorem AEC {D : BK} {F G : Fls} (h : Ap F D) (hk : ∀ n, n ≤ 99999999 → G (fnB nl n) = F (fnB nl n) ∨ (G (fnB nl n) = none ∧ n < (Ac D).frm)) : FX (Jt D G) = FX D := by
 unfold FX
 refine WF fun n hn => ?_
 show (if n < (Ac D).frm then [] else if n ≤ 99999999 ∧ G (fnB nl n) = none then [] else D.L n) = _
 by_cases e : n < (Ac D).frm
 ·rw [if_pos e, if_pos e]
 ·rw [if_neg e, if_neg e]
  split
  ·rename_i h1
   rcases hk n h1.1 with h2 | h2
   ·rw [h2] at h1; exact (h.nonL h1.1 h1.2).symm
   ·exact absurd h2.2 e
  ·rfl
theorem AIq {F G : Fls} {D : BK} (h : Ap F D) (hk : ∀ n, n ≤ 99999999 → G (fnB nl n) = F (fnB nl n) ∨ (G (fnB nl n) = none ∧ n < (Ac D).frm)) (ho : ∀ x, (∀ n, n ≤ 99999999 → x ≠ fnB nl n) → G x = F x) : Ap G (Jt D G) := by
 refine ⟨h.log.drop (fun n n9 => ?_) (fun n hn => ?_), h.note.keep h.tops.2.2.1 fun n n1 n9 => .inl (ho _ fun k _ e => Qa k n e.symm), fun n hn => ?_, fun n b hb => ?_, h.nts, fun x hx hd => ?_, h.tops⟩
 ·show _ ∨ (G (fnB nl n) = none ∧ ((if n ≤ 99999999 ∧ G (fnB nl n) = none then [] else D.L n).map (Ay n)) = [])
  rcases hk n n9 with h1 | h1
  ·by_cases h2 : G (fnB nl n) = none
   ·right; exact ⟨h2, by rw [if_pos ⟨n9, h2⟩]; rfl⟩
   ·left
    refine ⟨h1, ?_⟩
    show ((if n ≤ 99999999 ∧ G (fnB nl n) = none then [] else D.L n).map (Ay n)) = _
    rw [if_neg fun hh => h2 hh.2]
  ·right; exact ⟨h1.1, by rw [if_pos ⟨n9, h1.1⟩]; rfl⟩
 ·show ((if n ≤ 99999999 ∧ G (fnB nl n) = none then [] else D.L n).map (Ay n)) = []
  split
  ·rfl
  ·rw [h.farL hn]; rfl
 ·rw [ho _ fun k _ e => Iy k n e.symm]; exact h.tab n hn
 ·have hb : b ∈ (if n ≤ 99999999 ∧ G (fnB nl n) = none then [] else D.L n) := hb
  split at hb
  ·cases hb
  ·exact h.bat n b hb
 ·exact h.tonly x (by rw [← ho x fun n _ e => by rw [e, MM] at hd; cases hd]; exact hx) hd
theorem YJ {D : BK} {G : Fls} {s : Nat} {x : Nt} (hs : D.N s = [x]) (hn : ∀ n, s < n → D.N n = []) (ht : s < D.ntop) (hg : G (fnB nn s) ≠ none) : Ac (AFo D G) = x := by
 refine ABT (s := s) (l := []) ?_ (fun n h => ?_) ht
 ·show (if s ≤ 99999999 ∧ G (fnB nn s) = none then [] else D.N s) = _
  rw [if_neg fun h => hg h.2]; exact hs
 ·show (if n ≤ 99999999 ∧ G (fnB nn n) = none then [] else D.N n) = []
  split
  ·rfl
  ·exact hn n h
theorem AIF {F G : Fls} {D : BK} (h : Ap F D) {s : Nat} {x : Nt} (hs : D.N s = [x]) (hn : ∀ n, s < n → D.N n = []) (ht : s < D.ntop) (hg : G (fnB nn s) ≠ none) (hk : ∀ n, n ≤ 99999999 → G (fnB nn n) = F (fnB nn n) ∨ G (fnB nn n) = none) (ho : ∀ x, (∀ n, n ≤ 99999999 → x ≠ fnB nn n) → G x = F x) : Ap G (AFo D G) := by
 have hl : Ac (AFo D G) = Ac D := by rw [YJ hs hn ht hg, ABT (l := []) hs hn ht]
 refine ⟨h.log.keep h.tops.1 fun n n1 n9 => .inl (ho _ fun k _ e => Qa n k e), h.note.drop (fun n n9 => ?_) (fun n hn => ?_), fun n hm => ?_, h.bat, fun n b hb => ?_, fun x hx hd => ?_, h.tops⟩
 ·rcases hk n n9 with h1 | h1
  ·by_cases h2 : G (fnB nn n) = none
   ·right; refine ⟨h2, ?_⟩
    show ((if n ≤ 99999999 ∧ G (fnB nn n) = none then [] else D.N n).map Ck) = []
    rw [if_pos ⟨n9, h2⟩]; rfl
   ·left
    refine ⟨h1, ?_⟩
    show ((if n ≤ 99999999 ∧ G (fnB nn n) = none then [] else D.N n).map Ck) = _
    rw [if_neg fun hh => h2 hh.2]
  ·right; refine ⟨h1, ?_⟩
   show ((if n ≤ 99999999 ∧ G (fnB nn n) = none then [] else D.N n).map Ck) = []
   rw [if_pos ⟨n9, h1⟩]; rfl
 ·show ((if n ≤ 99999999 ∧ G (fnB nn n) = none then [] else D.N n).map Ck) = []
  split
  ·rfl
  ·rw [h.farN hn]; rfl
 ·rw [hl] at hm
  rw [ho _ fun k _ e => Kg k n e.symm]; exact h.tab n hm
 ·have hb : b ∈ (if n ≤ 99999999 ∧ G (fnB nn n) = none then [] else D.N n) := hb
  split at hb
  ·cases hb
  ·exact h.nts n b hb
 ·exact h.tonly x (by rw [← ho x fun n _ e => by rw [e, O7] at hd; cases hd]; exact hx) hd
structure Nxt (D : BK) (s : Nat) (x : Nt) (T : Nat → List Pr) (D' : BK) : Prop where
 L : D'.L = D.L
 ltop : D'.ltop = D.ltop
 ntop : D'.ntop ≤ max D.ntop (s + 1)
 last : (Ac D' = Ac D ∧ D'.T = D.T) ∨ (Ac D' = x ∧ D'.T = T)
theorem AId {D : BK} {s : Nat} {x : Nt} {T : Nat → List Pr} (hn : ∀ n, s < n → D.N n = []) : Nxt D s x T (addN D s x T) := ⟨rfl, rfl, Nat.le_refl _, .inr ⟨AAT hn, rfl⟩⟩
theorem AIb {D : BK} {s : Nat} {x : Nt} {T : Nat → List Pr} : Nxt D s x T D := ⟨rfl, rfl, by omega, .inl ⟨rfl, rfl⟩⟩
theorem AG5 {x : Nt} (h : Wn x) (hs : (Ck x).length ≤ 1048576) : Jq (bl (Aa (Bt (Ck x)))) [Ck x] := by
 rw [HV]
 have := Ng (rs := [Ck x]) (fun r hr => by rw [List.mem_singleton.1 hr]; exact hs) (t := []) Ox
 simpa using this
theorem AGM {F F1 : Fls} {D : BK} {s : Nat} {x : Nt} {T : Nat → List Pr} (h : Ap F D) (hs : 1 ≤ s ∧ s + 1 ≤ 99999999) (hx : Wn x) (hl : (Ck x).length ≤ 1048576) (hn0 : ∀ n, s ≤ n → n ≤ 99999999 → F (fnB nn n) = none)
  (ht : ∀ n ∈ x.names, F (tfN n) = some (Aa (Gs (T n)), bs0) ∧ Eu (T n)) (hF1 : ∀ y, F1 y = if y = fnB nn s then some (Aa (Bt (Ck x)), bs0) else F y) : Ap F1 (addN D s x T) ∧ ∀ n, s < n → D.N n = [] := by
 have hN : ∀ n, s < n → D.N n = [] := fun n hn => by
  by_cases h9 : n ≤ 99999999
  ·exact h.nonN h9 (hn0 n (by omega) h9)
  ·exact h.farN (.inr (by have := h.tops; omega))
 refine ⟨AFG h hs hx hN (fun n _ _ => .inl ?_) (fun n _ _ hne => .inl ?_) (fun n hn => ?_) (fun y h1 _ hy => ?_) ⟨_, by rw [hF1, if_pos rfl], AG5 hx hl⟩, hN⟩
 ·rw [hF1, if_neg (Qa n s)]
 ·rw [hF1, if_neg fun e => hne (F5 e)]
 ·rw [hF1, if_neg fun e => Kg s n e.symm]; exact ht n hn
 ·rw [hF1, if_neg (h1 s)] at hy; exact hy
theorem AG3 {F F1 G : Fls} {D : BK} {s : Nat} {x : Nt} {T : Nat → List Pr} (h : Ap F D) (hs : 1 ≤ s ∧ s + 1 ≤ 99999999) (hx : Wn x) (hl : (Ck x).length ≤ 1048576) (hn0 : ∀ n, s ≤ n → n ≤ 99999999 → F (fnB nn n) = none)
  (ht : ∀ n ∈ x.names, F (tfN n) = some (Aa (Gs (T n)), bs0) ∧ Eu (T n)) (hF1 : ∀ y, F1 y = if y = fnB nn s then some (bs0, Aa (Bt (Ck x))) else F y) (c : Gr F1 G) : ∃ D', Ap G D' ∧ Nxt D s x T D' := by
 have hN : ∀ n, s < n → D.N n = [] := fun n hn => by
  by_cases h9 : n ≤ 99999999
  ·exact h.nonN h9 (hn0 n (by omega) h9)
  ·exact h.farN (.inr (by have := h.tops; omega))
 have hNs : D.N s = [] := h.nonN (by omega) (hn0 s (Nat.le_refl _) (by omega))
 have kl : ∀ n, 1 ≤ n → n ≤ 99999999 → Ju (F (fnB nl n)) (G (fnB nl n)) := fun n n1 n9 => by
  have e : F1 (fnB nl n) = F (fnB nl n) := by rw [hF1, if_neg (Qa n s)]
  have := c.firm (x := fnB nl n) fun p hp => (h.log.has n p n1 n9 (e ▸ hp)).1
  rwa [e] at this
 have kn : ∀ n, 1 ≤ n → n ≤ 99999999 → n ≠ s → Ju (F (fnB nn n)) (G (fnB nn n)) := fun n n1 n9 hne => by
  have e : F1 (fnB nn n) = F (fnB nn n) := by rw [hF1, if_neg fun e => hne (F5 e)]
  have := c.firm (x := fnB nn n) fun p hp => (h.note.has n p n1 n9 (e ▸ hp)).1
  rwa [e] at this
 have kt : ∀ n l, F (tfN n) = some (Aa (Gs l), bs0) → Eu l → G (tfN n) = some (Aa (Gs l), bs0) := fun n l hf t => by
  have e : F1 (tfN n) = F (tfN n) := by rw [hF1, if_neg fun e => Kg s n e.symm]
  have := c.firm (x := tfN n) fun p hp => by rw [e, hf] at hp; cases hp; rfl
  rw [e] at this
  exact QC this t hf
 have ko : ∀ y, (∀ n, y ≠ fnB nn n) → G y ≠ none → F y ≠ none := fun y hy hg hf => hg (by
  have := c y
  rw [hF1, if_neg (hy s), hf] at this
  exact this)
 have hc := c (fnB nn s)
 rw [hF1, if_pos rfl] at hc
 obtain ⟨j, hj⟩ := hc
 have tr := AGA (rs := []) (r := Ck x) (fun r hr => by rw [List.nil_append] at hr; rw [List.mem_singleton.1 hr]; exact hl) j
 have e0 : Aa (wraps []) = bs0 := rfl
 rw [e0] at tr
 have old : (G (fnB nn s) = none ∨ ∃ y, G (fnB nn s) = some (y, bs0) ∧ Jq (bl y) []) → ∃ D', Ap G D' ∧ Nxt D s x T D' := fun hv => by
  have e1 : Jd { D with ntop := max D.ntop (s + 1) } = Jd D := O4 (by show D.ntop ≤ max D.ntop (s + 1); omega) fun n h1 _ => h.farN (.inr h1)
  have e2 : Ac { D with ntop := max D.ntop (s + 1) } = Ac D := by unfold Ac; rw [e1]
  refine ⟨{ D with ntop := max D.ntop (s + 1) }, ⟨h.log.keep h.tops.1 kl, ?_, fun n hm => ?_, h.bat, h.nts, fun y hy hd => ?_, by have := h.tops; refine ⟨this.1, this.2.1, ?_, ?_⟩ <;> simp only [] <;> omega⟩, ⟨rfl, rfl, Nat.le_refl _, .inl ⟨e2, rfl⟩⟩⟩
  ·have := h.note.put (G := G) (top' := max D.ntop (s + 1)) (s := s) (v := []) ⟨hs.1, by omega⟩ (by omega) (fun n n1 n9 hne => kn n n1 n9 hne) (hv.imp (fun h => ⟨h, rfl⟩) fun h => h) (by omega)
   have e : (Hl (fun n => (D.N n).map Ck) s []) = fun n => (D.N n).map Ck := by
    funext n
    by_cases e : n = s
    ·subst e; rw [CO, hNs]; rfl
    ·rw [Da e]
   rw [e] at this
   exact this
  ·rw [e2] at hm
   obtain ⟨h1, h2⟩ := h.tab n hm
   exact ⟨kt n _ h1 h2, h2⟩
  ·exact h.tonly y (ko y (fun n e => by rw [e, O7] at hd; cases hd) hy) hd
 split at hj
 ·exact old (.inl hj)
 ·rcases tr with tr | tr
  ·exact old (.inr ⟨_, hj, tr⟩)
  ·exact ⟨_, AFG h hs hx hN kl kn (fun n hn => ⟨kt n _ (ht n hn).1 (ht n hn).2, (ht n hn).2⟩) (fun y h1 _ hy => ko y h1 hy) ⟨_, hj, tr⟩, AId hN⟩
theorem ACB {F G : Fls} {D : BK} {s : Nat} {x : Nt} {T : Nat → List Pr} (h : Ap F (addN D s x T)) (hN : ∀ n, s < n → D.N n = []) (hs : F (fnB nn s) ≠ none) (hk : ∀ y, G y = F y ∨ (G y = none ∧ ∃ n, n < s ∧ n ≤ 99999999 ∧ y = fnB nn n)) : ∃ D', Ap G D' ∧ Ac D' = x ∧ D'.T = T ∧ D'.L = D.L ∧ D'.ltop = D.ltop ∧ D'.ntop = max D.ntop (s + 1) := by
 have e1 : (addN D s x T).N s = [x] := by show Hl D.N s [x] s = _; rw [CO]
 have e2 : ∀ n, s < n → (addN D s x T).N n = [] := fun n hn => by show Hl D.N s [x] n = _; rw [Da (by omega)]; exact hN n hn
 have e3 : s < (addN D s x T).ntop := by show s < max D.ntop (s + 1); omega
 have hg : G (fnB nn s) ≠ none := by
  rcases hk (fnB nn s) with h1 | ⟨_, n, h1, _, h2⟩
  ·rw [h1]; exact hs
  ·have := F5 h2; omega
 refine ⟨AFo (addN D s x T) G, AIF h e1 e2 e3 hg (fun n n9 => ?_) fun y hy => ?_, YJ e1 e2 e3 hg, rfl, rfl, rfl, rfl⟩
 ·rcases hk (fnB nn n) with h1 | h1
  ·exact .inl h1
  ·exact .inr h1.1
 ·rcases hk y with h1 | ⟨_, n, _, h9, h2⟩
  ·exact h1
  ·exact absurd h2 (hy n h9)
end Go.Lf.G

