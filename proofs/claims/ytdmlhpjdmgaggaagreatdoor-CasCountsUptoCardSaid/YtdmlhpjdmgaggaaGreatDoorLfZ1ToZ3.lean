/-
 What a store's files hold (chapter 9): plain law: segments, notes, tables, a crash.
-/
import Derived.Test.YtdmlhpjdmgaggaaGreatDoorLfM12ToX5
set_option linter.unusedVariables false
set_option linter.unusedSimpArgs false
set_option maxRecDepth 100000
set_option linter.unusedVariables false
set_option linter.unusedSimpArgs false
namespace Go.Lf.G
open Go
open M (Sorted Ah Dr BM Ao BG Cj A7 OkL Bl)
abbrev Fls := ByteArray → Option (ByteArray × ByteArray)
abbrev nl : ByteArray := ⟨#[108]⟩
abbrev nn : ByteArray := ⟨#[110]⟩
abbrev nt : ByteArray := ⟨#[116]⟩
def tfN (n : Nat) : ByteArray := nt ++ AY (Lib.decDigits n)
theorem QR (n : Nat) : bl (tfN n) = 116 :: Lib.decDigits n := by
 show (nt ++ AY (Lib.decDigits n)).data.toList = _
 rw [ByteArray.data_append, Array.toList_append]
 show [116] ++ (AY (Lib.decDigits n)).data.toList = _
 rw [show (AY (Lib.decDigits n)).data.toList = Lib.decDigits n from DX _]; rfl
theorem Gd {n k : Nat} (h : tfN n = tfN k) : n = k := by
 have h1 := congrArg bl h
 rw [QR, QR] at h1
 have h2 : Lib.decDigits n = Lib.decDigits k := by injection h1
 have h3 := (Rt n).2
 rw [h2, (Rt k).2] at h3
 exact h3.symm
theorem L8 (n : Nat) : (bl (fnB nl n)).head? = some 108 := by rw [NI]; rfl
theorem N7 (n : Nat) : (bl (fnB nn n)).head? = some 110 := by rw [NI]; rfl
theorem WR (n : Nat) : (bl (tfN n)).head? = some 116 := by rw [QR]; rfl
theorem Pw (n k : Nat) : fnB nl n ≠ fnB nn k := fun h => by have := L8 n; rw [h, N7] at this; cases this
theorem Ih (n k : Nat) : fnB nl n ≠ tfN k := fun h => by have := L8 n; rw [h, WR] at this; cases this
theorem KU (n k : Nat) : fnB nn n ≠ tfN k := fun h => by have := N7 n; rw [h, WR] at this; cases this
def Mine (x : ByteArray) : Prop := (∃ n, x = fnB nl n) ∨ (∃ n, x = fnB nn n) ∨ ∃ n, x = tfN n
def Hy (F G : Fls) : Prop := ∀ x, match F x with
 | none => G x = none
 | some p => ∃ j, G x = if p.1 ++ p.2.extract 0 j = bs0 then none else some (p.1 ++ p.2.extract 0 j, bs0)
theorem AKC (s : ByteArray) : s.extract 0 0 = bs0 := by
 have : (s.extract 0 0).size = 0 := by simp
 have h2 := Kj (s.extract 0 0)
 have h3 : bl (s.extract 0 0) = [] := Lg this
 rw [h3] at h2
 exact h2.symm
theorem AIo (j : Nat) : bs0.extract 0 j = bs0 := by
 have : (bs0.extract 0 j).size = 0 := by
  have : bs0.size = 0 := rfl
  rw [ByteArray.size_extract]; omega
 have h2 := Kj (bs0.extract 0 j)
 have h3 : bl (bs0.extract 0 j) = [] := Lg this
 rw [h3] at h2
 exact h2.symm
theorem AGJ (ks : List Int) (k : Nat) (f : Fi) : ∃ j, ME ks k f = f.firm ++ f.soft.extract 0 j := by
 unfold ME
 split
 ·rename_i h; exact ⟨0, by rw [AKC, M0]⟩
 ·split
  ·exact ⟨_, rfl⟩
  ·exact ⟨0, by rw [AKC, M0]⟩
theorem Vx {ks : List Int} : ∀ {l : List Fi} {k : Nat} (x : ByteArray), DK l → match BH x l with
  | none => BH x (CW ks k l) = none
  | some f => ∃ j, BH x (CW ks k l) = if f.firm ++ f.soft.extract 0 j = bs0 then none else some ⟨f.name, f.firm ++ f.soft.extract 0 j, bs0⟩
 | [], k, x, _ => rfl
 | f :: l, k, x, s => by
  have s' := List.pairwise_cons.1 s
  have ih := Vx (ks := ks) (k := Kq k f) x s'.2
  unfold CW Xl
  rw [DC]
  by_cases hx : f.name = x
  ·rw [if_pos hx]
   obtain ⟨j, hj⟩ := AGJ ks k f
   refine ⟨j, ?_⟩
   rw [← hj]
   by_cases hb : ME ks k f = bs0
   ·rw [if_pos hb, if_pos hb, List.nil_append]
    refine Us (OD fun g hg e => ?_)
    exact Jg (s'.1 g hg) (hx.trans e.symm)
   ·rw [if_neg hb, if_neg hb, List.singleton_append, DC, if_pos hx]
  ·rw [if_neg hx]
   by_cases hb : ME ks k f = bs0
   ·rw [if_pos hb, List.nil_append]; exact ih
   ·rw [if_neg hb, List.singleton_append, DC, if_neg hx]; exact ih
theorem AHu {m : Bx} (g : Cu m) (ks : List Int) : Hy (ff m) (ff (Mc m ks)) := by
 intro x
 have h := Vx (ks := ks) (k := 0) x g.sorted
 cases hf : BH x m.files with
 | none =>
  rw [hf] at h
  have e : ff m x = none := by unfold ff; rw [hf]; rfl
  have h : BH x (CW ks 0 m.files) = none := h
  rw [e]
  show (BH x (CW ks 0 m.files)).map _ = none
  rw [h]; rfl
 | some f =>
  rw [hf] at h
  obtain ⟨j, hj⟩ := h
  have e : ff m x = some (f.firm, f.soft) := by unfold ff; rw [hf]; rfl
  rw [e]
  refine ⟨j, ?_⟩
  show (BH x (CW ks 0 m.files)).map _ = _
  rw [hj]
  split <;> rfl
def Jh (a b : Option (ByteArray × ByteArray)) : Prop := b = a ∨ (a = some (bs0, bs0) ∧ b = none)
theorem Hy.firm {F G : Fls} (c : Hy F G) {x : ByteArray} (h : ∀ p, F x = some p → p.2 = bs0) : Jh (F x) (G x) := by
 have := c x
 cases hf : F x with
 | none => rw [hf] at this; exact .inl this
 | some p =>
  rw [hf] at this
  obtain ⟨j, hj⟩ := this
  have hp := h p hf
  obtain ⟨p1, p2⟩ := p
  simp only at hp
  subst hp
  simp only [AIo, M0] at hj
  by_cases h0 : p1 = bs0
  ·subst h0; rw [if_pos rfl] at hj; exact .inr ⟨rfl, hj⟩
  ·rw [if_neg h0] at hj; exact .inl hj
structure QG (F : Fls) (nm : ByteArray) (top : Nat) (R : Nat → List (List UInt8)) : Prop where
 has : ∀ n p, 1 ≤ n → n ≤ 99999999 → F (fnB nm n) = some p → p.2 = bs0 ∧ JV (bl p.1) (R n)
 non : ∀ n, 1 ≤ n → n ≤ 99999999 → F (fnB nm n) = none → R n = []
 out : ∀ n, top ≤ n → n ≤ 99999999 → F (fnB nm n) = none
 far : ∀ n, (n = 0 ∨ top ≤ n) → R n = []
def Gw {α : Type} (R : Nat → α) (s : Nat) (v : α) : Nat → α := fun n => if n = s then v else R n
theorem CF {α : Type} {R : Nat → α} {s : Nat} {v : α} : Gw R s v s = v := if_pos rfl
theorem DI {α : Type} {R : Nat → α} {s n : Nat} {v : α} (h : n ≠ s) : Gw R s v n = R n := if_neg h
theorem Vb {rs : List (List UInt8)} (h : JV [] rs) : rs = [] := h.uniq (.stop Ox)
theorem QG.put {F G : Fls} {nm : ByteArray} {top top' : Nat} {R : Nat → List (List UInt8)} (h : QG F nm top R) {s : Nat} {v : List (List UInt8)} (hs : 1 ≤ s ∧ s ≤ 99999999) (ht : s < top') (hk : ∀ n, 1 ≤ n → n ≤ 99999999 → n ≠ s → Jh (F (fnB nm n)) (G (fnB nm n)))
  (hv : (G (fnB nm s) = none ∧ v = []) ∨ ∃ x, G (fnB nm s) = some (x, bs0) ∧ JV (bl x) v) (htt : top ≤ top') : QG G nm top' (Gw R s v) := by
 refine ⟨fun n p n1 n9 hg => ?_, fun n n1 n9 hg => ?_, fun n hn n9 => ?_, fun n hn => ?_⟩
 ·by_cases e : n = s
  ·subst e
   rw [CF]
   rcases hv with ⟨h1, _⟩ | ⟨x, h1, h2⟩
   ·rw [h1] at hg; cases hg
   ·rw [h1] at hg; cases hg; exact ⟨rfl, h2⟩
  ·rw [DI e]
   rcases hk n n1 n9 e with h1 | ⟨h1, h2⟩
   ·exact h.has n p n1 n9 (h1 ▸ hg)
   ·rw [h2] at hg; cases hg
 ·by_cases e : n = s
  ·subst e
   rw [CF]
   rcases hv with ⟨_, h1⟩ | ⟨x, h1, _⟩
   ·exact h1
   ·rw [h1] at hg; cases hg
  ·rw [DI e]
   rcases hk n n1 n9 e with h1 | ⟨h1, h2⟩
   ·exact h.non n n1 n9 (h1 ▸ hg)
   ·obtain ⟨_, h3⟩ := h.has n _ n1 n9 h1
    exact Vb h3
 ·have e : n ≠ s := by omega
  rcases hk n (by omega) n9 e with h1 | ⟨h1, h2⟩
  ·rw [h1]; exact h.out n (by omega) n9
  ·exact h2
 ·have e : n ≠ s := by omega
  rw [DI e]; exact h.far n (by omega)
theorem QG.keep {F G : Fls} {nm : ByteArray} {top : Nat} {R : Nat → List (List UInt8)} (h : QG F nm top R) (ht : 1 ≤ top) (hk : ∀ n, 1 ≤ n → n ≤ 99999999 → Jh (F (fnB nm n)) (G (fnB nm n))) : QG G nm top R := by
 refine ⟨fun n p n1 n9 hg => ?_, fun n n1 n9 hg => ?_, fun n hn n9 => ?_, h.far⟩
 ·rcases hk n (by omega) n9 with h1 | ⟨h1, h2⟩
  ·exact h.has n p n1 n9 (h1 ▸ hg)
  ·rw [h2] at hg; cases hg
 ·rcases hk n (by omega) n9 with h1 | ⟨h1, h2⟩
  ·exact h.non n n1 n9 (h1 ▸ hg)
  ·obtain ⟨_, h3⟩ := h.has n _ n1 n9 h1
   exact Vb h3
 ·rcases hk n (by omega) n9 with h1 | ⟨h1, h2⟩
  ·rw [h1]; exact h.out n hn n9
  ·exact h2
theorem QG.up {F : Fls} {nm : ByteArray} {top top' : Nat} {R : Nat → List (List UInt8)} (h : QG F nm top R) (ht : top ≤ top') : QG F nm top' R :=
 ⟨h.has, h.non, fun n hn => h.out n (by omega), fun n hn => h.far n (by omega)⟩
theorem QG.drop {F G : Fls} {nm : ByteArray} {top : Nat} {R R' : Nat → List (List UInt8)} (h : QG F nm top R) (hk : ∀ n, n ≤ 99999999 → (G (fnB nm n) = F (fnB nm n) ∧ R' n = R n) ∨ (G (fnB nm n) = none ∧ R' n = [])) (hf : ∀ n, (n = 0 ∨ top ≤ n) → R' n = []) : QG G nm top R' := by
 refine ⟨fun n p n1 n9 hg => ?_, fun n n1 n9 hg => ?_, fun n hn n9 => ?_, hf⟩
 ·rcases hk n n9 with ⟨h1, h2⟩ | ⟨h1, h2⟩
  ·rw [h2]; exact h.has n p n1 n9 (h1 ▸ hg)
  ·rw [h1] at hg; cases hg
 ·rcases hk n n9 with ⟨h1, h2⟩ | ⟨h1, h2⟩
  ·rw [h2]; exact h.non n n1 n9 (h1 ▸ hg)
  ·exact h2
 ·rcases hk n n9 with ⟨h1, h2⟩ | ⟨h1, h2⟩
  ·rw [h1]; exact h.out n hn n9
  ·exact h1
theorem AEV {rs : List (List UInt8)} {r : List UInt8} (hs : ∀ x ∈ rs ++ [r], x.length ≤ 1048576) (j : Nat) : JV (bl (AY (wraps rs) ++ (AY (Bf r)).extract 0 j)) rs ∨ JV (bl (AY (wraps rs) ++ (AY (Bf r)).extract 0 j)) (rs ++ [r]) := by
 have e : bl (AY (wraps rs) ++ (AY (Bf r)).extract 0 j) = wraps rs ++ (Bf r).take j := by
  show (AY (wraps rs) ++ (AY (Bf r)).extract 0 j).data.toList = _
  rw [ByteArray.data_append, Array.toList_append, ByteArray.data_extract, Array.toList_extract]
  rw [show (AY (wraps rs)).data.toList = wraps rs from DX _, show (AY (Bf r)).data.toList = Bf r from DX _]
  simp
 rw [e]
 by_cases hj : j < (Bf r).length
 ·exact .inl (NE (fun x hx => hs x (by simp [hx])) (AFl (hs r (by simp)) hj))
 ·right
  rw [List.take_of_length_le (by omega)]
  have := NE (rs := rs ++ [r]) hs (t := []) Ox
  simpa using this
structure Nt where
 next : Nat
 frm : Nat
 names : List Nat
def CZ (x : Nt) : List UInt8 := Bv x.next ++ Bv x.frm ++ Bv x.names.length ++ x.names.flatMap Bv
structure XG (x : Nt) : Prop where
 next : x.next ≤ 99999999
 frm : 1 ≤ x.frm ∧ x.frm ≤ 99999999
 cnt : x.names.length ≤ 60000
 below : ∀ n ∈ x.names, n < x.next
 nd : x.names.Nodup
structure RD (b : List Pr) : Prop where
 len : b.length ≤ 64
 ok : ∀ x ∈ b, IK x
theorem PS : ∀ {l : List Nat}, (∀ n ∈ l, n ≤ 99999999) → (l.flatMap Bv).length ≤ l.length * 10
 | [], _ => by simp
 | n :: l, h => by
  have h1 := Af (n := n) (by have := h n (by simp); omega)
  have h2 := PS (l := l) fun k hk => h k (List.mem_cons_of_mem _ hk)
  simp only [List.flatMap_cons, List.length_append, List.length_cons]; omega
theorem ACN {x : Nt} (h : XG x) : (CZ x).length ≤ 30 + x.names.length * 10 := by
 have h1 := Af (n := x.next) (by have := h.next; omega)
 have h2 := Af (n := x.frm) (by have := h.frm; omega)
 have h3 := Af (n := x.names.length) (by have := h.cnt; omega)
 have h4 := PS (l := x.names) fun n hn => by have := h.below n hn; have := h.next; omega
 simp only [CZ, List.length_append]; omega
theorem Tu {s : Nat} {b : List Pr} (hs : s ≤ 99999999) (h : RD b) : (Av s b).length ≤ 20 + 64 * 8276 := by
 have h1 := Af (n := s) (by omega)
 have h2 := Af (n := b.length) (by have := h.len; omega)
 have h3 := Ic h.ok
 have h4 := h.len
 have h5 : b.length * 8276 ≤ 64 * 8276 := Nat.mul_le_mul_right _ h4
 simp only [Av, List.length_append]; omega
structure BF where
 L : Nat → List (List Pr)
 N : Nat → List Nt
 T : Nat → List Pr
 ltop : Nat
 ntop : Nat
def JR (D : BF) : List Nt := (List.range D.ntop).flatMap D.N
def Ac (D : BF) : Nt := (JR D).getLast?.getD ⟨1, 1, []⟩
def FD (D : BF) : List (List Pr) := (List.range D.ltop).flatMap fun n => if n < (Ac D).frm then [] else D.L n
def C8 (D : BF) : List Pr := BM [] (FD D).flatten
def mapD (D : BF) : List Pr := Bl (Ao (C8 D :: (Ac D).names.map D.T))
structure Al (F : Fls) (D : BF) : Prop where
 log : QG F nl D.ltop fun n => (D.L n).map (Av n)
 note : QG F nn D.ntop fun n => (D.N n).map CZ
 tab : ∀ n ∈ (Ac D).names, F (tfN n) = some (AY (Gg (D.T n)), bs0) ∧ Ee (D.T n)
 bat : ∀ n b, b ∈ D.L n → RD b
 nts : ∀ n x, x ∈ D.N n → XG x
 tonly : ∀ x, F x ≠ none → (bl x).head? = some 116 → ∃ n, x = tfN n
 tops : 1 ≤ D.ltop ∧ D.ltop ≤ 99999999 ∧ 1 ≤ D.ntop ∧ D.ntop ≤ 99999999
theorem ACj {F : Fls} {D : BF} (h : Al F D) : XG (Ac D) := by
 unfold Ac
 cases hl : (JR D).getLast? with
 | none => exact ⟨by simp, by simp, by simp, by simp, by simp⟩
 | some x =>
  have := List.mem_of_getLast? hl
  obtain ⟨n, _, hn⟩ := List.mem_flatMap.1 this
  exact h.nts n x hn
theorem AJq {l : List Pr} (t : Ee l) : AY (Gg l) ≠ bs0 := fun h4 => by
 have h5 : Gg l = [] := by
  have := congrArg bl h4
  rw [Gs] at this
  exact this
 have h6 : framesT l (JA l) ≠ [] := by simp [framesT]
 unfold Gg at h5
 cases hfr : framesT l (JA l) with
 | nil => exact h6 hfr
 | cons r rs =>
  rw [hfr] at h5
  have h7 : (Bf r).length = 0 := by
   have h8 := congrArg List.length h5
   rw [QQ, List.length_append] at h8
   simp at h8
   simp [h8.1]
  have h9 := (FQ (r := r) (Jo t.tabS r (by rw [hfr]; simp))).1
  omega
theorem PU {a b : Option (ByteArray × ByteArray)} {l : List Pr} (k : Jh a b) (t : Ee l) (h : a = some (AY (Gg l), bs0)) : b = some (AY (Gg l), bs0) := by
 rcases k with h3 | ⟨h3, _⟩
 ·exact h3.trans h
 ·rw [h] at h3
  injection h3 with h3
  exact absurd (Prod.mk.inj h3).1 (AJq t)
theorem Al.same {F G : Fls} {D : BF} (h : Al F D) (hl : ∀ n, 1 ≤ n → n ≤ 99999999 → Jh (F (fnB nl n)) (G (fnB nl n))) (hn : ∀ n, 1 ≤ n → n ≤ 99999999 → Jh (F (fnB nn n)) (G (fnB nn n))) (ht : ∀ n ∈ (Ac D).names, Jh (F (tfN n)) (G (tfN n)))
  (ho : ∀ x, G x ≠ none → F x ≠ none ∨ ∃ n, x = tfN n) : Al G D := by
 refine ⟨h.log.keep h.tops.1 hl, h.note.keep h.tops.2.2.1 hn, fun n hm => ?_, h.bat, h.nts, fun x hx hd => ?_, h.tops⟩
 ·obtain ⟨h1, h2⟩ := h.tab n hm
  exact ⟨PU (ht n hm) h2 h1, h2⟩
 ·rcases ho x hx with h1 | h1
  ·exact h.tonly x h1 hd
  ·exact h1
theorem Al.crash {F G : Fls} {D : BF} (h : Al F D) (c : Hy F G) : Al G D := by
 refine h.same (fun n n1 n9 => c.firm fun p hp => (h.log.has n p n1 n9 hp).1) (fun n n1 n9 => c.firm fun p hp => (h.note.has n p n1 n9 hp).1) (fun n hm => c.firm fun p hp => ?_) fun x hx => .inl fun hf => hx ?_
 ·rw [(h.tab n hm).1] at hp; cases hp; rfl
 ·have := c x; rw [hf] at this; exact this
end Go.Lf.G

/-
 What a store tells (chapter 9): plain law: batches, tables one behind the other, what lives.
-/
set_option maxRecDepth 100000
set_option linter.unusedVariables false
set_option linter.unusedSimpArgs false
namespace Go.Lf.G
open Go
open M (Sorted Ah Dr BM Ao BG Cj A7 OkL Bl atK Bz Rn)
theorem AGW {x : Pr} (h : IK x) : A7 x = 0 := by
 have h1 : x.key ≠ (⟨#[]⟩ : ByteArray) := fun e => h.key (by rw [e]; rfl)
 have h2 := h.keyMost
 have h3 := h.valMost
 unfold M.A7
 rw [if_neg ?_, if_neg ?_]
 ·simp only [Bool.or_eq_true, decide_eq_true_eq]; omega
 ·simp only [Bool.or_eq_true, Bool.and_eq_true, decide_eq_true_eq, Bool.not_eq_true', decide_eq_false_iff_not]
  rintro (h4 | ⟨h4, h5⟩)
  ·exact h1 h4
  ·exact h5 (SK (h.gone h4))
theorem AEw {x : Pr} (h : A7 x = 0) : IK x := by
 unfold M.A7 at h
 split at h
 ·cases h
 ·rename_i h1
  split at h
  ·cases h
  ·rename_i h2
   simp only [Bool.or_eq_true, Bool.and_eq_true, decide_eq_true_eq, Bool.not_eq_true', decide_eq_false_iff_not, not_or, not_and, Decidable.not_not] at h1 h2
   refine ⟨fun e => h1.1 (SK e), by omega, by omega, fun hg => ?_⟩
   rw [h1.2 hg]; rfl
theorem ABe {l : List Pr} (h : ∀ x ∈ l, IK x) : Cj l := fun x hx => AGW (h x hx)
theorem ZB (k : ByteArray) : ∀ {b t : List Pr}, Sorted t → Cj b → Ah k (BM t b) = (Ah k b.reverse).or (Ah k t)
 | [], t, _, _ => rfl
 | x :: b, t, s, g => by
  have gx := g x (by simp)
  show Ah k (BM (Dr x t) b) = _
  rw [ZB k (M.Kn s) fun y hy => g y (List.mem_cons_of_mem _ hy), List.reverse_cons, M.RV, M.MI gx, M.Rh x k s, M.Ar]
  cases Ah k b.reverse with
  | some p => rfl
  | none =>
   by_cases h : x.key = k
   ·rw [if_pos h, if_pos h]; rfl
   ·rw [if_neg h, if_neg h]; rfl
def alive (o : Option Pr) : Option Pr := o.filter fun p => !p.gone
theorem Im (x : Pr) : alive (some x) = if x.gone then none else some x := by
 unfold alive
 cases hg : x.gone <;> simp [Option.filter, hg]
theorem Tn (k : ByteArray) : ∀ {l : List Pr}, Sorted l → Ah k (Bl l) = alive (Ah k l)
 | [], _ => rfl
 | x :: l, s => by
  have s' := List.pairwise_cons.1 s
  have ih := Tn k s'.2
  unfold M.Bl at ih ⊢
  rw [List.filter_cons, M.Ar]
  by_cases hk : x.key = k
  ·rw [if_pos hk]
   cases hg : x.gone with
   | false => rw [if_pos (by rfl), M.Ar, if_pos hk, Im, hg]; rfl
   | true =>
    rw [if_neg (by simp), ih]
    have : Ah k l = none := M.Ey fun y hy e => M.Jg (s'.1 y hy) (hk.trans e.symm)
    rw [this, Im, hg]; rfl
  ·rw [if_neg hk]
   cases hg : x.gone with
   | false => rw [if_pos (by rfl), M.Ar, if_neg hk]; exact ih
   | true => rw [if_neg (by simp)]; exact ih
theorem Oc {l : List Pr} (s : Sorted l) : Sorted (Bl l) := s.sublist List.filter_sublist
def IX (fr : List Pr) (ts : List (List Pr)) : List Pr := Bl (Ao (fr :: ts))
theorem DJ (fr : List Pr) (ts : List (List Pr)) : Sorted (IX fr ts) := Oc (M.CV _)
theorem ET (k : ByteArray) {fr : List Pr} {ts : List (List Pr)} (o : OkL (fr :: ts)) : Ah k (IX fr ts) = alive ((Ah k fr).or (BG k ts)) := by
 unfold IX
 rw [Tn k (M.CV _), M.Gf k o, M.Cc]
def wr1 (m : List Pr) (p : Pr) : List Pr := m.take (atK p.key m) ++ (if p.gone then [] else [p]) ++ m.drop (if Bz p.key m then atK p.key m + 1 else atK p.key m)
def wrL (m b : List Pr) : List Pr := b.foldl wr1 m
theorem Oe (k : ByteArray) (x : Pr) (l : List Pr) : atK k (x :: l) = if sLt x.key k then atK k l + 1 else 0 := by
 unfold M.atK M.X7; rw [List.takeWhile_cons]; split <;> simp
theorem Vp (k : ByteArray) (x : Pr) (l : List Pr) : Bz k (x :: l) = if sLt x.key k then Bz k l else decide (x.key = k) := by
 unfold M.Bz; rw [Oe]; by_cases h : sLt x.key k = true <;> simp [h]
def AFg (k : ByteArray) (l : List Pr) : List Pr := l.filter fun q => !decide (q.key = k)
theorem AFG {k : ByteArray} : ∀ {l : List Pr}, Sorted l → l.take (atK k l) ++ l.drop (if Bz k l then atK k l + 1 else atK k l) = AFg k l
 | [], _ => by simp [AFg]
 | x :: l, s => by
  have s' := List.pairwise_cons.1 s
  have ih := AFG (k := k) s'.2
  unfold AFg at ih ⊢
  rw [Oe, Vp, List.filter_cons]
  by_cases hx : sLt x.key k = true
  ·have hne : x.key ≠ k := M.Jg hx
   have e1 : (!decide (x.key = k)) = true := by simp [hne]
   simp only [hx, if_true, e1, List.take_succ_cons, List.cons_append]
   rw [← ih]
   cases ht : Bz k l <;> simp
  ·rw [if_neg hx, if_neg hx, List.take_zero, List.nil_append]
   have hrest : l.filter (fun q => !decide (q.key = k)) = l := by
    refine List.filter_eq_self.2 fun y hy => ?_
    have h1 := s'.1 y hy
    by_cases e : y.key = k
    ·rw [e] at h1; exact absurd h1 hx
    ·simp [e]
   by_cases hk : x.key = k
   ·rw [if_pos (by simp [hk]), if_neg (by simp [hk]), hrest]; rfl
   ·rw [if_neg (by simp [hk]), if_pos (by simp [hk]), hrest]; rfl
theorem AGd {m : List Pr} (s : Sorted m) (p : Pr) : wr1 m p = if p.gone then AFg p.key m else M.ins p m := by
 unfold wr1
 cases hg : p.gone with
 | true => simp only [if_true, List.append_nil]; exact AFG s
 | false =>
  simp only [Bool.false_eq_true, if_false]
  have := M.VF p m
  unfold M.Rn at this
  exact this
theorem AGb (k k' : ByteArray) (m : List Pr) : Ah k (AFg k' m) = if k' = k then none else Ah k m := by
 unfold AFg
 induction m with
 | nil => split <;> rfl
 | cons x m ih =>
  rw [List.filter_cons, M.Ar]
  by_cases hx : x.key = k'
  ·rw [if_neg (by simp [hx]), ih]
   by_cases hk : k' = k
   ·rw [if_pos hk, if_pos hk]
   ·rw [if_neg hk, if_neg hk, if_neg (fun e => hk (hx.symm.trans e))]
  ·rw [if_pos (by simp [hx]), M.Ar, ih]
   by_cases hk : x.key = k
   ·rw [if_pos hk, if_pos hk, if_neg (fun e => hx (hk.trans e.symm))]
   ·rw [if_neg hk, if_neg hk]
theorem Vi {m : List Pr} (s : Sorted m) (p : Pr) : Sorted (wr1 m p) := by
 rw [AGd s]
 split
 ·exact s.sublist List.filter_sublist
 ·exact M.Qx p s
theorem AHO {m : List Pr} (s : Sorted m) (p : Pr) (k : ByteArray) : Ah k (wr1 m p) = if p.key = k then alive (some p) else Ah k m := by
 rw [AGd s]
 cases hg : p.gone with
 | true => rw [if_pos rfl, AGb, Im, hg]; rfl
 | false => rw [if_neg (by simp), M.Rh p k s, Im, hg]; rfl
theorem V3 : ∀ {b m : List Pr}, Sorted m → Sorted (wrL m b)
 | [], _, s => s
 | p :: b, m, s => V3 (b := b) (Vi s p)
theorem ABq (k : ByteArray) : ∀ {b m : List Pr}, Sorted m → Ah k (wrL m b) = match Ah k b.reverse with | some p => alive (some p) | none => Ah k m
 | [], _, _ => rfl
 | p :: b, m, s => by
  show Ah k (wrL (wr1 m p) b) = _
  rw [ABq k (Vi s p), List.reverse_cons, M.RV, M.Ar]
  cases Ah k b.reverse with
  | some q => rfl
  | none =>
   rw [AHO s]
   by_cases h : p.key = k
   ·rw [if_pos h, if_pos h]; rfl
   ·rw [if_neg h, if_neg h]; rfl
theorem UA {fr b : List Pr} {ts : List (List Pr)} (o : OkL (fr :: ts)) (g : Cj b) : IX (BM fr b) ts = wrL (IX fr ts) b := by
 have sf := o.sorted fr (by simp)
 have o2 : OkL (BM fr b :: ts) := ⟨fun l hl => by
   rcases List.mem_cons.1 hl with rfl | hl
   ·exact M.NF sf
   ·exact o.sorted l (by simp [hl]), fun l hl => by
   rcases List.mem_cons.1 hl with rfl | hl
   ·exact M.QS (o.good fr (by simp))
   ·exact o.good l (by simp [hl])⟩
 refine (DJ _ _).ext (V3 (DJ _ _)) fun k => ?_
 rw [ET k o2, ZB k sf g, ABq k (DJ _ _), ET k o]
 cases Ah k b.reverse with
 | some p => rfl
 | none => rfl
theorem OkL.nil_cons {ts : List (List Pr)} (o : OkL ts) : OkL ([] :: ts) := ⟨fun l hl => by
  rcases List.mem_cons.1 hl with rfl | hl
  ·exact List.Pairwise.nil
  ·exact o.sorted l hl, fun l hl => by
  rcases List.mem_cons.1 hl with rfl | hl
  ·exact fun _ h => by cases h
  ·exact o.good l hl⟩
theorem OkL.tail {l : List Pr} {ts : List (List Pr)} (o : OkL (l :: ts)) : OkL ts := ⟨fun x hx => o.sorted x (by simp [hx]), fun x hx => o.good x (by simp [hx])⟩
theorem ABR {fr : List Pr} {ts : List (List Pr)} (o : OkL (fr :: ts)) : IX [] (fr :: ts) = IX fr ts := by
 refine (DJ _ _).ext (DJ _ _) fun k => ?_
 rw [ET k (OkL.nil_cons o), ET k o, M.Cc]
 rfl
theorem ACi (a b : Option Pr) : alive (a.or (alive b)) = alive (a.or b) := by
 cases a with
 | some p => rfl
 | none =>
  cases b with
  | none => rfl
  | some q => cases hg : q.gone <;> simp [Im, hg, alive]
def EF (ts : List (List Pr)) : List Pr := Bl (Ao ts)
theorem U0 {ts : List (List Pr)} : Sorted (EF ts) ∧ Cj (EF ts) := ⟨Oc (M.CV _), fun x hx => M.Ry _ x (List.mem_filter.1 hx).1⟩
theorem OkL.left {fr : List Pr} {ts : List (List Pr)} (o : OkL (fr :: ts)) : OkL [fr, EF ts] := ⟨fun l hl => by
  rcases List.mem_cons.1 hl with rfl | hl
  ·exact o.sorted _ (by simp)
  ·rw [List.mem_singleton.1 hl]; exact U0.1, fun l hl => by
  rcases List.mem_cons.1 hl with rfl | hl
  ·exact o.good _ (by simp)
  ·rw [List.mem_singleton.1 hl]; exact U0.2⟩
theorem P9 {fr : List Pr} {ts : List (List Pr)} (o : OkL (fr :: ts)) : IX fr [EF ts] = IX fr ts := by
 refine (DJ _ _).ext (DJ _ _) fun k => ?_
 rw [ET k (OkL.left o), ET k o, M.Cc]
 have : Ah k (EF ts) = alive (BG k ts) := by
  unfold EF
  rw [Tn k (M.CV _), M.Gf k (OkL.tail o)]
 rw [this]
 have h2 : BG k ([] : List (List Pr)) = none := rfl
 rw [h2, Option.or_none, ACi]
theorem WY {fr : List Pr} {ts : List (List Pr)} (o : OkL (fr :: ts)) (h : EF ts = []) : IX fr [] = IX fr ts := by
 rw [← P9 o, h]
 have o1 : OkL [fr] := ⟨fun l hl => by rw [List.mem_singleton.1 hl]; exact o.sorted _ (by simp), fun l hl => by rw [List.mem_singleton.1 hl]; exact o.good _ (by simp)⟩
 have o2 : OkL [fr, []] := by have := OkL.left o; rw [h] at this; exact this
 refine (DJ _ _).ext (DJ _ _) fun k => ?_
 rw [ET k o1, ET k o2, M.Cc]
 rfl
theorem VQ (l : List Pr) : (Bl l).length ≤ l.length := (List.filter_sublist).length_le
end Go.Lf.G

/-
 A store's files, step by step (chapter 9): plain law.
-/
set_option maxRecDepth 100000
set_option linter.unusedVariables false
set_option linter.unusedSimpArgs false
namespace Go.Lf.G
open Go
open M (Sorted Ah Dr BM Ao BG Cj A7 OkL Bl)
theorem Ow {α : Type} {R : Nat → List α} {t : Nat} : ∀ {t' : Nat}, t ≤ t' → (∀ n, t ≤ n → n < t' → R n = []) → (List.range t').flatMap R = (List.range t).flatMap R
 | 0, h, _ => by
  have : t = 0 := by omega
  rw [this]
 | t' + 1, h, hr => by
  by_cases e : t = t' + 1
  ·rw [e]
  ·rw [List.range_succ, List.flatMap_append, Ow (t' := t') (by omega) fun n h1 h2 => hr n h1 (by omega)]
   rw [List.flatMap_cons, hr t' (by omega) (by omega)]; simp
theorem Tq {α : Type} {R : Nat → List α} {s t : Nat} (hs : s < t) (hr : ∀ n, s < n → R n = []) : (List.range t).flatMap R = (List.range s).flatMap R ++ R s := by
 rw [Ow (t := s + 1) (by omega) fun n h1 _ => hr n (by omega), List.range_succ, List.flatMap_append]
 simp
theorem XM {α : Type} {R R' : Nat → List α} {t : Nat} (h : ∀ n, n < t → R n = R' n) : (List.range t).flatMap R = (List.range t).flatMap R' := by
 unfold List.flatMap
 congr 1
 exact List.map_congr_left fun n hn => h n (List.mem_range.1 hn)
theorem AAw {D : BF} {s : Nat} {l : List Nt} {x : Nt} (h : D.N s = l ++ [x]) (hn : ∀ n, s < n → D.N n = []) (ht : s < D.ntop) : Ac D = x := by
 unfold Ac JR
 rw [Tq ht hn, h, ← List.append_assoc, List.getLast?_concat]; rfl
theorem Al.farL {F : Fls} {D : BF} (h : Al F D) {n : Nat} (hn : n = 0 ∨ D.ltop ≤ n) : D.L n = [] := by simpa using h.log.far n hn
theorem Al.farN {F : Fls} {D : BF} (h : Al F D) {n : Nat} (hn : n = 0 ∨ D.ntop ≤ n) : D.N n = [] := by simpa using h.note.far n hn
theorem Al.nonL {F : Fls} {D : BF} (h : Al F D) {n : Nat} (hn : n ≤ 99999999) (hf : F (fnB nl n) = none) : D.L n = [] := by
 by_cases e : n = 0
 ·exact h.farL (.inl e)
 ·simpa using h.log.non n (by omega) hn hf
theorem Al.nonN {F : Fls} {D : BF} (h : Al F D) {n : Nat} (hn : n ≤ 99999999) (hf : F (fnB nn n) = none) : D.N n = [] := by
 by_cases e : n = 0
 ·exact h.farN (.inl e)
 ·simpa using h.note.non n (by omega) hn hf
theorem AB9 (t a b : List Pr) : BM t (a ++ b) = BM (BM t a) b := List.foldl_append
theorem ABk : Cj ([] : List Pr) := fun _ h => by cases h
theorem AEB : Sorted ([] : List Pr) := List.Pairwise.nil
theorem ABJ (D : BF) : Sorted (C8 D) ∧ Cj (C8 D) := ⟨M.NF AEB, M.QS ABk⟩
theorem Ee.good {l : List Pr} (t : Ee l) : Sorted l ∧ Cj l := ⟨t.inc, ABe t.ok⟩
theorem Al.okL {F : Fls} {D : BF} (h : Al F D) : OkL (C8 D :: (Ac D).names.map D.T) := by
 refine ⟨fun l hl => ?_, fun l hl => ?_⟩ <;> rcases List.mem_cons.1 hl with rfl | hl
 ·exact (ABJ D).1
 ·obtain ⟨n, hn, rfl⟩ := List.mem_map.1 hl
  exact (h.tab n hn).2.good.1
 ·exact (ABJ D).2
 ·obtain ⟨n, hn, rfl⟩ := List.mem_map.1 hl
  exact (h.tab n hn).2.good.2
def Ny (D : BF) (s : Nat) (b : List Pr) : BF := { D with L := Gw D.L s (D.L s ++ [b]), ltop := max D.ltop (s + 1) }
theorem Yn {F : Fls} {D : BF} (h : Al F D) {s : Nat} {b : List Pr} (hs : (Ac D).frm ≤ s) (hn : ∀ n, s < n → D.L n = []) : FD (Ny D s b) = FD D ++ [b] := by
 have hst : s < max D.ltop (s + 1) := by omega
 have e1 : FD D = (List.range s).flatMap (fun n => if n < (Ac D).frm then [] else D.L n) ++ D.L s := by
  have e0 : FD D = (List.range (max D.ltop (s + 1))).flatMap fun n => if n < (Ac D).frm then [] else D.L n := by
   refine (Ow (by omega) fun n h1 h2 => ?_).symm
   split
   ·rfl
   ·exact h.farL (.inr h1)
  rw [e0, Tq (s := s) hst (fun n hn' => by
   split
   ·rfl
   ·exact hn n hn'), if_neg (by omega)]
 have e2 : FD (Ny D s b) = (List.range s).flatMap (fun n => if n < (Ac D).frm then [] else Gw D.L s (D.L s ++ [b]) n) ++ Gw D.L s (D.L s ++ [b]) s := by
  show (List.range (max D.ltop (s + 1))).flatMap (fun n => if n < (Ac D).frm then [] else Gw D.L s (D.L s ++ [b]) n) = _
  rw [Tq (s := s) hst (fun n hn' => by
   split
   ·rfl
   ·rw [DI (by omega)]; exact hn n hn'), if_neg (by omega)]
 rw [e1, e2, CF, List.append_assoc]
 congr 1
 exact XM fun n hn' => by rw [DI (by omega)]
theorem AGV {F : Fls} {D : BF} (h : Al F D) {s : Nat} {b : List Pr} (hs : (Ac D).frm ≤ s) (hn : ∀ n, s < n → D.L n = []) (hb : RD b) : C8 (Ny D s b) = BM (C8 D) b ∧ mapD (Ny D s b) = wrL (mapD D) b := by
 have e : C8 (Ny D s b) = BM (C8 D) b := by
  unfold C8
  rw [Yn h hs hn, List.flatten_append, AB9]
  simp
 refine ⟨e, ?_⟩
 have := UA h.okL (ABe hb.ok)
 unfold mapD
 rw [e]
 exact this
theorem AIb {F G : Fls} {D : BF} (h : Al F D) {s : Nat} {b : List Pr} (hs : 1 ≤ s ∧ s + 1 ≤ 99999999) (hb : RD b) (hl : ∀ n, 1 ≤ n → n ≤ 99999999 → n ≠ s → Jh (F (fnB nl n)) (G (fnB nl n))) (hn : ∀ n, 1 ≤ n → n ≤ 99999999 → Jh (F (fnB nn n)) (G (fnB nn n)))
  (ht : ∀ n, Jh (F (tfN n)) (G (tfN n))) (ho : ∀ x, (∀ n, x ≠ fnB nl n) → G x ≠ none → F x ≠ none) (hv : ∃ x, G (fnB nl s) = some (x, bs0) ∧ JV (bl x) ((D.L s ++ [b]).map (Av s))) : Al G (Ny D s b) := by
 have ht' : ∀ n ∈ (Ac D).names, G (tfN n) = some (AY (Gg (D.T n)), bs0) ∧ Ee (D.T n) := fun n hm =>
  let ⟨h1, h2⟩ := h.tab n hm
  ⟨PU (ht n) h2 h1, h2⟩
 refine ⟨?_, ?_, ht', fun n c hc => ?_, h.nts, fun x hx hd => ?_, by have := h.tops; refine ⟨?_, ?_, this.2.2.1, this.2.2.2⟩ <;> simp only [Ny] <;> omega⟩
 ·have := h.log.put (G := G) (top' := max D.ltop (s + 1)) (s := s) (v := (D.L s ++ [b]).map (Av s)) ⟨hs.1, by omega⟩ (by omega) (fun n n1 n9 hne => hl n n1 n9 hne) (.inr hv) (by omega)
  have e : (Gw (fun n => (D.L n).map (Av n)) s ((D.L s ++ [b]).map (Av s))) = fun n => ((Ny D s b).L n).map (Av n) := by
   funext n
   show _ = (Gw D.L s (D.L s ++ [b]) n).map (Av n)
   by_cases e : n = s
   ·subst e; rw [CF, CF]
   ·rw [DI e, DI e]
  rw [e] at this
  exact this
 ·exact h.note.keep h.tops.2.2.1 hn
 ·by_cases e : n = s
  ·subst e
   have hc : c ∈ Gw D.L n (D.L n ++ [b]) n := hc
   rw [CF] at hc
   rcases List.mem_append.1 hc with hc | hc
   ·exact h.bat n c hc
   ·rw [List.mem_singleton.1 hc]; exact hb
  ·have hc : c ∈ Gw D.L s (D.L s ++ [b]) n := hc
   rw [DI e] at hc
   exact h.bat n c hc
 ·exact h.tonly x (ho x (fun n e => by rw [e, L8] at hd; cases hd) hx) hd
def addN (D : BF) (s : Nat) (x : Nt) (T : Nat → List Pr) : BF := { D with N := Gw D.N s [x], T := T, ntop := max D.ntop (s + 1) }
theorem Yd {D : BF} {s : Nat} {x : Nt} {T : Nat → List Pr} (hn : ∀ n, s < n → D.N n = []) : Ac (addN D s x T) = x := by
 refine AAw (s := s) (l := []) ?_ (fun n h => ?_) ?_
 ·show Gw D.N s [x] s = _
  rw [CF]; rfl
 ·show Gw D.N s [x] n = []
  rw [DI (by omega)]; exact hn n h
 ·show s < max D.ntop (s + 1)
  omega
theorem AE2 {F G : Fls} {D : BF} (h : Al F D) {s : Nat} {x : Nt} {T : Nat → List Pr} (hs : 1 ≤ s ∧ s + 1 ≤ 99999999) (hx : XG x) (hn0 : ∀ n, s < n → D.N n = []) (hl : ∀ n, 1 ≤ n → n ≤ 99999999 → Jh (F (fnB nl n)) (G (fnB nl n))) (hn : ∀ n, 1 ≤ n → n ≤ 99999999 → n ≠ s → Jh (F (fnB nn n)) (G (fnB nn n)))
  (ht : ∀ n ∈ x.names, G (tfN n) = some (AY (Gg (T n)), bs0) ∧ Ee (T n)) (ho : ∀ x, (∀ n, x ≠ fnB nn n) → (∀ n, x ≠ tfN n) → G x ≠ none → F x ≠ none) (hv : ∃ y, G (fnB nn s) = some (y, bs0) ∧ JV (bl y) [CZ x]) : Al G (addN D s x T) := by
 refine ⟨h.log.keep h.tops.1 hl, ?_, fun n hm => ?_, h.bat, fun n y hy => ?_, fun y hy hd => ?_, by have := h.tops; refine ⟨this.1, this.2.1, ?_, ?_⟩ <;> simp only [addN] <;> omega⟩
 ·have := h.note.put (G := G) (top' := max D.ntop (s + 1)) (s := s) (v := [CZ x]) ⟨hs.1, by omega⟩ (by omega) (fun n n1 n9 hne => hn n n1 n9 hne) (.inr hv) (by omega)
  have e : (Gw (fun n => (D.N n).map CZ) s [CZ x]) = fun n => ((addN D s x T).N n).map CZ := by
   funext n
   show _ = (Gw D.N s [x] n).map CZ
   by_cases e : n = s
   ·subst e; rw [CF, CF]; rfl
   ·rw [DI e, DI e]
  rw [e] at this
  exact this
 ·rw [Yd hn0] at hm
  exact ht n hm
 ·have hy : y ∈ Gw D.N s [x] n := hy
  by_cases e : n = s
  ·rw [e, CF] at hy
   rw [List.mem_singleton.1 hy]; exact hx
  ·rw [DI e] at hy; exact h.nts n y hy
 ·by_cases e : ∃ n, y = tfN n
  ·exact e
  ·exact h.tonly y (ho y (fun n e => by rw [e, N7] at hd; cases hd) (fun n e' => e ⟨n, e'⟩) hy) hd
theorem Al.tput {F G : Fls} {D : BF} (h : Al F D) (hk : ∀ x, (∀ n, n ∉ (Ac D).names → x ≠ tfN n) → G x = F x) : Al G D := by
 refine h.same (fun n _ _ => .inl (hk _ fun k _ => Ih n k)) (fun n _ _ => .inl (hk _ fun k _ => KU n k)) (fun n hn => .inl (hk _ fun k hk' e => hk' (by rw [← Gd e]; exact hn))) fun x hx => ?_
 by_cases e : ∃ n, x = tfN n
 ·exact .inr e
 ·exact .inl (by rw [← hk x fun n _ e' => e ⟨n, e'⟩]; exact hx)
open Classical in
noncomputable def Je (D : BF) (G : Fls) : BF := { D with L := fun n => if n ≤ 99999999 ∧ G (fnB nl n) = none then [] else D.L n }
open Classical in
noncomputable def AFI (D : BF) (G : Fls) : BF := { D with N := fun n => if n ≤ 99999999 ∧ G (fnB nn n) = none then [] else D.N n }
theorem ADo {D : BF} {F G : Fls} (h : Al F D) (hk : ∀ n, n ≤ 99999999 → G (fnB nl n) = F (fnB nl n) ∨ (G (fnB nl n) = none ∧ n < (Ac D).frm)) : FD (Je D G) = FD D := by
 unfold FD
 refine XM fun n hn => ?_
 show (if n < (Ac D).frm then [] else if n ≤ 99999999 ∧ G (fnB nl n) = none then [] else D.L n) = _
 by_cases e : n < (Ac D).frm
 ·rw [if_pos e, if_pos e]
 ·rw [if_neg e, if_neg e]
  split
  ·rename_i h1
   rcases hk n h1.1 with h2 | h2
   ·rw [h2] at h1; exact (h.nonL h1.1 h1.2).symm
   ·exact absurd h2.2 e
  ·rfl
theorem AGF {F G : Fls} {D : BF} (h : Al F D) (hk : ∀ n, n ≤ 99999999 → G (fnB nl n) = F (fnB nl n) ∨ (G (fnB nl n) = none ∧ n < (Ac D).frm)) (ho : ∀ x, (∀ n, n ≤ 99999999 → x ≠ fnB nl n) → G x = F x) : Al G (Je D G) := by
 refine ⟨h.log.drop (fun n n9 => ?_) (fun n hn => ?_), h.note.keep h.tops.2.2.1 fun n n1 n9 => .inl (ho _ fun k _ e => Pw k n e.symm), fun n hn => ?_, fun n b hb => ?_, h.nts, fun x hx hd => ?_, h.tops⟩
 ·show _ ∨ (G (fnB nl n) = none ∧ ((if n ≤ 99999999 ∧ G (fnB nl n) = none then [] else D.L n).map (Av n)) = [])
  rcases hk n n9 with h1 | h1
  ·by_cases h2 : G (fnB nl n) = none
   ·right; exact ⟨h2, by rw [if_pos ⟨n9, h2⟩]; rfl⟩
   ·left
    refine ⟨h1, ?_⟩
    show ((if n ≤ 99999999 ∧ G (fnB nl n) = none then [] else D.L n).map (Av n)) = _
    rw [if_neg fun hh => h2 hh.2]
  ·right; exact ⟨h1.1, by rw [if_pos ⟨n9, h1.1⟩]; rfl⟩
 ·show ((if n ≤ 99999999 ∧ G (fnB nl n) = none then [] else D.L n).map (Av n)) = []
  split
  ·rfl
  ·rw [h.farL hn]; rfl
 ·rw [ho _ fun k _ e => Ih k n e.symm]; exact h.tab n hn
 ·have hb : b ∈ (if n ≤ 99999999 ∧ G (fnB nl n) = none then [] else D.L n) := hb
  split at hb
  ·cases hb
  ·exact h.bat n b hb
 ·exact h.tonly x (by rw [← ho x fun n _ e => by rw [e, L8] at hd; cases hd]; exact hx) hd
theorem XL {D : BF} {G : Fls} {s : Nat} {x : Nt} (hs : D.N s = [x]) (hn : ∀ n, s < n → D.N n = []) (ht : s < D.ntop) (hg : G (fnB nn s) ≠ none) : Ac (AFI D G) = x := by
 refine AAw (s := s) (l := []) ?_ (fun n h => ?_) ht
 ·show (if s ≤ 99999999 ∧ G (fnB nn s) = none then [] else D.N s) = _
  rw [if_neg fun h => hg h.2]; exact hs
 ·show (if n ≤ 99999999 ∧ G (fnB nn n) = none then [] else D.N n) = []
  split
  ·rfl
  ·exact hn n h
theorem AHx {F G : Fls} {D : BF} (h : Al F D) {s : Nat} {x : Nt} (hs : D.N s = [x]) (hn : ∀ n, s < n → D.N n = []) (ht : s < D.ntop) (hg : G (fnB nn s) ≠ none) (hk : ∀ n, n ≤ 99999999 → G (fnB nn n) = F (fnB nn n) ∨ G (fnB nn n) = none) (ho : ∀ x, (∀ n, n ≤ 99999999 → x ≠ fnB nn n) → G x = F x) : Al G (AFI D G) := by
 have hl : Ac (AFI D G) = Ac D := by rw [XL hs hn ht hg, AAw (l := []) hs hn ht]
 refine ⟨h.log.keep h.tops.1 fun n n1 n9 => .inl (ho _ fun k _ e => Pw n k e), h.note.drop (fun n n9 => ?_) (fun n hn => ?_), fun n hm => ?_, h.bat, fun n b hb => ?_, fun x hx hd => ?_, h.tops⟩
 ·rcases hk n n9 with h1 | h1
  ·by_cases h2 : G (fnB nn n) = none
   ·right; refine ⟨h2, ?_⟩
    show ((if n ≤ 99999999 ∧ G (fnB nn n) = none then [] else D.N n).map CZ) = []
    rw [if_pos ⟨n9, h2⟩]; rfl
   ·left
    refine ⟨h1, ?_⟩
    show ((if n ≤ 99999999 ∧ G (fnB nn n) = none then [] else D.N n).map CZ) = _
    rw [if_neg fun hh => h2 hh.2]
  ·right; refine ⟨h1, ?_⟩
   show ((if n ≤ 99999999 ∧ G (fnB nn n) = none then [] else D.N n).map CZ) = []
   rw [if_pos ⟨n9, h1⟩]; rfl
 ·show ((if n ≤ 99999999 ∧ G (fnB nn n) = none then [] else D.N n).map CZ) = []
  split
  ·rfl
  ·rw [h.farN hn]; rfl
 ·rw [hl] at hm
  rw [ho _ fun k _ e => KU k n e.symm]; exact h.tab n hm
 ·have hb : b ∈ (if n ≤ 99999999 ∧ G (fnB nn n) = none then [] else D.N n) := hb
  split at hb
  ·cases hb
  ·exact h.nts n b hb
 ·exact h.tonly x (by rw [← ho x fun n _ e => by rw [e, N7] at hd; cases hd]; exact hx) hd
structure Nxt (D : BF) (s : Nat) (x : Nt) (T : Nat → List Pr) (D' : BF) : Prop where
 L : D'.L = D.L
 ltop : D'.ltop = D.ltop
 ntop : D'.ntop ≤ max D.ntop (s + 1)
 last : (Ac D' = Ac D ∧ D'.T = D.T) ∨ (Ac D' = x ∧ D'.T = T)
theorem AHn {D : BF} {s : Nat} {x : Nt} {T : Nat → List Pr} (hn : ∀ n, s < n → D.N n = []) : Nxt D s x T (addN D s x T) := ⟨rfl, rfl, Nat.le_refl _, .inr ⟨Yd hn, rfl⟩⟩
theorem AHL {D : BF} {s : Nat} {x : Nt} {T : Nat → List Pr} : Nxt D s x T D := ⟨rfl, rfl, by omega, .inl ⟨rfl, rfl⟩⟩
theorem AFz {x : Nt} (h : XG x) (hs : (CZ x).length ≤ 1048576) : JV (bl (AY (Bf (CZ x)))) [CZ x] := by
 rw [Gs]
 have := NE (rs := [CZ x]) (fun r hr => by rw [List.mem_singleton.1 hr]; exact hs) (t := []) Ox
 simpa using this
theorem AFa {F F1 : Fls} {D : BF} {s : Nat} {x : Nt} {T : Nat → List Pr} (h : Al F D) (hs : 1 ≤ s ∧ s + 1 ≤ 99999999) (hx : XG x) (hl : (CZ x).length ≤ 1048576) (hn0 : ∀ n, s ≤ n → n ≤ 99999999 → F (fnB nn n) = none)
  (ht : ∀ n ∈ x.names, F (tfN n) = some (AY (Gg (T n)), bs0) ∧ Ee (T n)) (hF1 : ∀ y, F1 y = if y = fnB nn s then some (AY (Bf (CZ x)), bs0) else F y) : Al F1 (addN D s x T) ∧ ∀ n, s < n → D.N n = [] := by
 have hN : ∀ n, s < n → D.N n = [] := fun n hn => by
  by_cases h9 : n ≤ 99999999
  ·exact h.nonN h9 (hn0 n (by omega) h9)
  ·exact h.farN (.inr (by have := h.tops; omega))
 refine ⟨AE2 h hs hx hN (fun n _ _ => .inl ?_) (fun n _ _ hne => .inl ?_) (fun n hn => ?_) (fun y h1 _ hy => ?_) ⟨_, by rw [hF1, if_pos rfl], AFz hx hl⟩, hN⟩
 ·rw [hF1, if_neg (Pw n s)]
 ·rw [hF1, if_neg fun e => hne (Fs e)]
 ·rw [hF1, if_neg fun e => KU s n e.symm]; exact ht n hn
 ·rw [hF1, if_neg (h1 s)] at hy; exact hy
theorem AF2 {F F1 G : Fls} {D : BF} {s : Nat} {x : Nt} {T : Nat → List Pr} (h : Al F D) (hs : 1 ≤ s ∧ s + 1 ≤ 99999999) (hx : XG x) (hl : (CZ x).length ≤ 1048576) (hn0 : ∀ n, s ≤ n → n ≤ 99999999 → F (fnB nn n) = none)
  (ht : ∀ n ∈ x.names, F (tfN n) = some (AY (Gg (T n)), bs0) ∧ Ee (T n)) (hF1 : ∀ y, F1 y = if y = fnB nn s then some (bs0, AY (Bf (CZ x))) else F y) (c : Hy F1 G) : ∃ D', Al G D' ∧ Nxt D s x T D' := by
 have hN : ∀ n, s < n → D.N n = [] := fun n hn => by
  by_cases h9 : n ≤ 99999999
  ·exact h.nonN h9 (hn0 n (by omega) h9)
  ·exact h.farN (.inr (by have := h.tops; omega))
 have hNs : D.N s = [] := h.nonN (by omega) (hn0 s (Nat.le_refl _) (by omega))
 have kl : ∀ n, 1 ≤ n → n ≤ 99999999 → Jh (F (fnB nl n)) (G (fnB nl n)) := fun n n1 n9 => by
  have e : F1 (fnB nl n) = F (fnB nl n) := by rw [hF1, if_neg (Pw n s)]
  have := c.firm (x := fnB nl n) fun p hp => (h.log.has n p n1 n9 (e ▸ hp)).1
  rwa [e] at this
 have kn : ∀ n, 1 ≤ n → n ≤ 99999999 → n ≠ s → Jh (F (fnB nn n)) (G (fnB nn n)) := fun n n1 n9 hne => by
  have e : F1 (fnB nn n) = F (fnB nn n) := by rw [hF1, if_neg fun e => hne (Fs e)]
  have := c.firm (x := fnB nn n) fun p hp => (h.note.has n p n1 n9 (e ▸ hp)).1
  rwa [e] at this
 have kt : ∀ n l, F (tfN n) = some (AY (Gg l), bs0) → Ee l → G (tfN n) = some (AY (Gg l), bs0) := fun n l hf t => by
  have e : F1 (tfN n) = F (tfN n) := by rw [hF1, if_neg fun e => KU s n e.symm]
  have := c.firm (x := tfN n) fun p hp => by rw [e, hf] at hp; cases hp; rfl
  rw [e] at this
  exact PU this t hf
 have ko : ∀ y, (∀ n, y ≠ fnB nn n) → G y ≠ none → F y ≠ none := fun y hy hg hf => hg (by
  have := c y
  rw [hF1, if_neg (hy s), hf] at this
  exact this)
 have hc := c (fnB nn s)
 rw [hF1, if_pos rfl] at hc
 obtain ⟨j, hj⟩ := hc
 have tr := AEV (rs := []) (r := CZ x) (fun r hr => by rw [List.nil_append] at hr; rw [List.mem_singleton.1 hr]; exact hl) j
 have e0 : AY (wraps []) = bs0 := rfl
 rw [e0] at tr
 have old : (G (fnB nn s) = none ∨ ∃ y, G (fnB nn s) = some (y, bs0) ∧ JV (bl y) []) → ∃ D', Al G D' ∧ Nxt D s x T D' := fun hv => by
  have e1 : JR { D with ntop := max D.ntop (s + 1) } = JR D := Ow (by show D.ntop ≤ max D.ntop (s + 1); omega) fun n h1 _ => h.farN (.inr h1)
  have e2 : Ac { D with ntop := max D.ntop (s + 1) } = Ac D := by unfold Ac; rw [e1]
  refine ⟨{ D with ntop := max D.ntop (s + 1) }, ⟨h.log.keep h.tops.1 kl, ?_, fun n hm => ?_, h.bat, h.nts, fun y hy hd => ?_, by have := h.tops; refine ⟨this.1, this.2.1, ?_, ?_⟩ <;> simp only [] <;> omega⟩, ⟨rfl, rfl, Nat.le_refl _, .inl ⟨e2, rfl⟩⟩⟩
  ·have := h.note.put (G := G) (top' := max D.ntop (s + 1)) (s := s) (v := []) ⟨hs.1, by omega⟩ (by omega) (fun n n1 n9 hne => kn n n1 n9 hne) (hv.imp (fun h => ⟨h, rfl⟩) fun h => h) (by omega)
   have e : (Gw (fun n => (D.N n).map CZ) s []) = fun n => (D.N n).map CZ := by
    funext n
    by_cases e : n = s
    ·subst e; rw [CF, hNs]; rfl
    ·rw [DI e]
   rw [e] at this
   exact this
  ·rw [e2] at hm
   obtain ⟨h1, h2⟩ := h.tab n hm
   exact ⟨kt n _ h1 h2, h2⟩
  ·exact h.tonly y (ko y (fun n e => by rw [e, N7] at hd; cases hd) hy) hd
 split at hj
 ·exact old (.inl hj)
 ·rcases tr with tr | tr
  ·exact old (.inr ⟨_, hj, tr⟩)
  ·exact ⟨_, AE2 h hs hx hN kl kn (fun n hn => ⟨kt n _ (ht n hn).1 (ht n hn).2, (ht n hn).2⟩) (fun y h1 _ hy => ko y h1 hy) ⟨_, hj, tr⟩, AHn hN⟩
theorem ABU {F G : Fls} {D : BF} {s : Nat} {x : Nt} {T : Nat → List Pr} (h : Al F (addN D s x T)) (hN : ∀ n, s < n → D.N n = []) (hs : F (fnB nn s) ≠ none) (hk : ∀ y, G y = F y ∨ (G y = none ∧ ∃ n, n < s ∧ n ≤ 99999999 ∧ y = fnB nn n)) : ∃ D', Al G D' ∧ Ac D' = x ∧ D'.T = T ∧ D'.L = D.L ∧ D'.ltop = D.ltop ∧ D'.ntop = max D.ntop (s + 1) := by
 have e1 : (addN D s x T).N s = [x] := by show Gw D.N s [x] s = _; rw [CF]
 have e2 : ∀ n, s < n → (addN D s x T).N n = [] := fun n hn => by show Gw D.N s [x] n = _; rw [DI (by omega)]; exact hN n hn
 have e3 : s < (addN D s x T).ntop := by show s < max D.ntop (s + 1); omega
 have hg : G (fnB nn s) ≠ none := by
  rcases hk (fnB nn s) with h1 | ⟨_, n, h1, _, h2⟩
  ·rw [h1]; exact hs
  ·have := Fs h2; omega
 refine ⟨AFI (addN D s x T) G, AHx h e1 e2 e3 hg (fun n n9 => ?_) fun y hy => ?_, XL e1 e2 e3 hg, rfl, rfl, rfl, rfl⟩
 ·rcases hk (fnB nn n) with h1 | h1
  ·exact .inl h1
  ·exact .inr h1.1
 ·rcases hk y with h1 | ⟨_, n, _, h9, h2⟩
  ·exact h1
  ·exact absurd h2 (hy n h9)
end Go.Lf.G

