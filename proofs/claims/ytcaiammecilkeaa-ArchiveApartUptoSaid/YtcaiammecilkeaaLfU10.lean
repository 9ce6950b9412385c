/-
  Plain law, no program in sight: programs of steps and events as bytes (chapters 12 and 13).
-/
import Derived.Test.YtcaiammecilkeaaLfU9
set_option maxRecDepth 100000
set_option linter.unusedVariables false
set_option linter.unusedSimpArgs false
namespace Go.Lf
open Go

abbrev bl (s : ByteArray) : List UInt8 := s.data.toList
theorem bl_size (s : ByteArray) : (bl s).length = s.size := size_list s
theorem bl_strL (l : List UInt8) : bl (strL l) = l := strL_list l
def nameOK (s : ByteArray) : Bool := decide (1 ≤ s.size ∧ s.size ≤ 16 ∧ ∀ c ∈ bl s, 33 ≤ c.toNat ∧ c.toNat ≤ 126)
theorem nameOK_iff {s : ByteArray} : nameOK s = true ↔ 1 ≤ s.size ∧ s.size ≤ 16 ∧ ∀ c ∈ bl s, 33 ≤ c.toNat ∧ c.toNat ≤ 126 := by simp [nameOK]

/-- a step -/
structure Stp where
  kind : Int
  name : ByteArray
  undo : ByteArray
  tries : Int
  undoTries : Int
  wait : Int
def Stp.cells (x : Stp) : Array Value := #[.int .i64 x.kind, .string x.name, .string x.undo, .int .i64 x.tries, .int .i64 x.undoTries, .int .i64 x.wait]
def StpE : Enc Stp where
  enc x := [.int .i64 x.kind, .string x.name, .string x.undo, .int .i64 x.tries, .int .i64 x.undoTries, .int .i64 x.wait]
  w := 6
  len _ := rfl
  pos := by omega
  one x v hv := by simp at hv; rcases hv with rfl | rfl | rfl | rfl | rfl | rfl <;> rfl
abbrev bs0' : ByteArray := ⟨#[]⟩
def inI (n lo hi : Int) : Bool := decide (lo ≤ n ∧ n ≤ hi)
theorem inI_iff {n lo hi : Int} : inI n lo hi = true ↔ lo ≤ n ∧ n ≤ hi := by simp [inI]
def stpOK (x : Stp) : Bool :=
  if x.kind = 1 then ((decide (x.undo = bs0') && decide (x.undoTries = 0)) || (nameOK x.undo && inI x.undoTries 1 5)) && nameOK x.name && inI x.tries 1 5 && decide (x.wait = 0)
  else if x.kind = 2 then decide (x.name = bs0') && decide (x.undo = bs0') && decide (x.tries = 0) && decide (x.undoTries = 0) && inI x.wait 1 1000
  else if x.kind = 3 then decide (x.undo = bs0') && decide (x.tries = 0) && decide (x.undoTries = 0) && decide (x.wait = 0) && nameOK x.name
  else false
structure Prg where
  steps : List Stp
  limit : Int
def prgOK (p : Prg) : Bool := decide (p.steps.length ≤ 16) && inI p.limit 0 16000 && p.steps.all stpOK
def encStp (x : Stp) : List UInt8 := putV x.kind.toNat ++
  (if x.kind = 1 then textL (bl x.name) ++ putV x.tries.toNat ++ textL (bl x.undo) ++ putV x.undoTries.toNat else if x.kind = 2 then putV x.wait.toNat else textL (bl x.name))
def encPrg (p : Prg) : List UInt8 := putV p.limit.toNat ++ putV p.steps.length ++ p.steps.flatMap encStp

/-- what is read of a step: the bounds of its kind, its tries and its wait -/
def rdStp (bk bt bw : Nat) (all : Bool) (r : Rd) : Stp × Rd :=
  let k := intR bk r
  if k.1 = 1 then
    let a := textR k.2
    let b := intR bt a.2
    let c := textR b.2
    let d := intR bt c.2
    (⟨1, strL a.1, strL c.1, b.1, d.1, 0⟩, d.2)
  else if k.1 = 2 then
    let a := intR bw k.2
    (⟨2, bs0', bs0', 0, 0, a.1⟩, a.2)
  else if k.1 = 3 ∨ all = true then
    let a := textR k.2
    (⟨k.1, strL a.1, bs0', 0, 0, 0⟩, a.2)
  else (⟨k.1, bs0', bs0', 0, 0, 0⟩, k.2)
def rdStps (bk bt bw : Nat) (all : Bool) : Nat → Rd → List Stp × Rd
  | 0, r => ([], r)
  | n + 1, r => let x := rdStp bk bt bw all r; let y := rdStps bk bt bw all n x.2; (x.1 :: y.1, y.2)
def rdPrg (bl' bk bt bw : Nat) (all : Bool) (l : List UInt8) : Prg × Rd :=
  let a := intR bl' ⟨l, false⟩
  let n := intR 16 a.2
  let s := rdStps bk bt bw all n.1 n.2
  (⟨s.1, a.1⟩, s.2)
/-- back from bytes -/
def decPrg (l : List UInt8) : Option Prg := let x := rdPrg 16000 3 5 1000 false l; if endR x.2 && prgOK x.1 then some x.1 else none

theorem endR_iff {r : Rd} : endR r = true ↔ r = ⟨[], false⟩ := by
  obtain ⟨l, b⟩ := r
  cases b <;> cases l <;> simp [endR]
theorem toNat_of {n lo hi : Int} (h : inI n lo hi = true) (h0 : 0 ≤ lo) : ((n.toNat : Nat) : Int) = n := by rw [inI_iff] at h; omega

theorem nameOK_ne {s : ByteArray} (h : nameOK s = true) : s ≠ bs0' := by
  rintro rfl
  rw [nameOK_iff] at h
  have : bs0'.size = 0 := rfl
  omega

theorem rdStp_enc {bk bt bw : Nat} {all : Bool} (h3 : 3 ≤ bk) (h5 : 5 ≤ bt) (h1 : 1000 ≤ bw) {x : Stp} (hx : stpOK x = true) (t : List UInt8) : rdStp bk bt bw all ⟨encStp x ++ t, false⟩ = (x, ⟨t, false⟩) := by
  obtain ⟨kind, name, undo, tries, ut, wait⟩ := x
  have sz : ∀ {s : ByteArray}, s.size ≤ 16 → (bl s).length < 18446744073709551616 := fun h => by rw [bl_size]; omega
  have nsz : ∀ {s : ByteArray}, nameOK s = true → s.size ≤ 16 := fun h => (nameOK_iff.1 h).2.1
  unfold stpOK at hx
  split at hx
  · rename_i hk
    simp only at hk
    subst hk
    simp only [Bool.and_eq_true, Bool.or_eq_true, decide_eq_true_eq] at hx
    obtain ⟨⟨⟨hu, hn⟩, ht⟩, rfl⟩ := hx
    have hus : undo.size ≤ 16 ∧ 0 ≤ ut ∧ ut ≤ 5 := by
      rcases hu with ⟨rfl, rfl⟩ | ⟨h, h'⟩
      · exact ⟨by decide, by omega, by omega⟩
      · rw [inI_iff] at h'; exact ⟨nsz h, by omega, by omega⟩
    rw [inI_iff] at ht
    have e1 := intR_put (n := (1 : Int).toNat) (most := bk) (by decide) (by simpa using (by omega : 1 ≤ bk))
    have e2 := textR_put (l := bl name) (sz (nsz hn))
    have e3 := intR_put (n := tries.toNat) (most := bt) (by omega) (by omega)
    have e4 := textR_put (l := bl undo) (sz hus.1)
    have e5 := intR_put (n := ut.toNat) (most := bt) (by omega) (by omega)
    simp only [rdStp, encStp, if_true, List.append_assoc, e1, e2, e3, e4, e5]
    rw [if_pos (by decide)]
    simp [strL_of]
    omega
  · split at hx
    · rename_i hk1 hk
      simp only at hk
      subst hk
      simp only [Bool.and_eq_true, decide_eq_true_eq] at hx
      obtain ⟨⟨⟨⟨rfl, rfl⟩, rfl⟩, rfl⟩, hw⟩ := hx
      rw [inI_iff] at hw
      have e1 := intR_put (n := (2 : Int).toNat) (most := bk) (by decide) (by simpa using (by omega : 2 ≤ bk))
      have e2 := intR_put (n := wait.toNat) (most := bw) (by omega) (by omega)
      simp only [rdStp, encStp, if_true, List.append_assoc, e1]
      rw [if_neg (by decide), if_pos (by decide), if_neg (by decide), e2]
      simp
      omega
    · split at hx
      · rename_i hk1 hk2 hk
        simp only at hk
        subst hk
        simp only [Bool.and_eq_true, decide_eq_true_eq] at hx
        obtain ⟨⟨⟨⟨rfl, rfl⟩, rfl⟩, rfl⟩, hn⟩ := hx
        have e1 := intR_put (n := (3 : Int).toNat) (most := bk) (by decide) (by simpa using h3)
        have e2 := textR_put (l := bl name) (sz (nsz hn))
        simp only [rdStp, encStp, if_true, List.append_assoc, e1]
        rw [if_neg (by decide), if_neg (by decide), if_pos (.inl (by decide)), if_neg (by decide), if_neg (by decide), e2]
        simp [strL_of]
      · cases hx
theorem rdStps_enc {bk bt bw : Nat} {all : Bool} (h3 : 3 ≤ bk) (h5 : 5 ≤ bt) (h1 : 1000 ≤ bw) (t : List UInt8) : ∀ {l : List Stp}, l.all stpOK = true → rdStps bk bt bw all l.length ⟨l.flatMap encStp ++ t, false⟩ = (l, ⟨t, false⟩)
  | [], _ => rfl
  | x :: l, h => by
    simp only [List.all_cons, Bool.and_eq_true] at h
    simp only [List.length_cons, rdStps, List.flatMap_cons, List.append_assoc, rdStp_enc h3 h5 h1 h.1, rdStps_enc h3 h5 h1 t h.2]
theorem rdPrg_enc {b0 bk bt bw : Nat} {all : Bool} (h0 : 16000 ≤ b0) (h3 : 3 ≤ bk) (h5 : 5 ≤ bt) (h1 : 1000 ≤ bw) {p : Prg} (hp : prgOK p = true) : rdPrg b0 bk bt bw all (encPrg p) = (p, ⟨[], false⟩) := by
  obtain ⟨l, lim⟩ := p
  simp only [prgOK, Bool.and_eq_true, decide_eq_true_eq] at hp
  obtain ⟨⟨hl, hlim⟩, ha⟩ := hp
  have hlim' := inI_iff.1 hlim
  have e1 := intR_put (n := lim.toNat) (most := b0) (by omega) (by omega)
  have e2 := intR_put (n := l.length) (most := 16) (by omega) hl
  have e3 := rdStps_enc (all := all) h3 h5 h1 [] ha
  rw [List.append_nil] at e3
  simp only [rdPrg, encPrg, List.append_assoc, e1, e2, e3, toNat_of hlim (by decide)]
theorem decPrg_enc {p : Prg} (hp : prgOK p = true) : decPrg (encPrg p) = some p := by
  simp only [decPrg, rdPrg_enc (Nat.le_refl _) (Nat.le_refl _) (Nat.le_refl _) (Nat.le_refl _) hp, hp]
  rfl

theorem rdStp_good {bk bt bw : Nat} {all : Bool} {r : Rd} (h : (rdStp bk bt bw all r).2.bad = false) : r.bad = false ∧ (stpOK (rdStp bk bt bw all r).1 = true → r.rest = encStp (rdStp bk bt bw all r).1 ++ (rdStp bk bt bw all r).2.rest) := by
  unfold rdStp at h ⊢
  simp only at h ⊢
  split at h
  · rename_i hk
    obtain ⟨d1, d2, _⟩ := intR_good h
    obtain ⟨c1, c2⟩ := textR_good d1
    obtain ⟨b1, b2, _⟩ := intR_good c1
    obtain ⟨a1, a2⟩ := textR_good b1
    obtain ⟨k1, k2, _⟩ := intR_good a1
    refine ⟨k1, fun _ => ?_⟩
    rw [if_pos hk]
    simp only [encStp, if_true, bl_strL, Int.toNat_natCast]
    rw [k2, hk, a2, b2, c2, d2]
    simp [List.append_assoc]
  · split at h
    · rename_i hk1 hk
      obtain ⟨a1, a2, _⟩ := intR_good h
      obtain ⟨k1, k2, _⟩ := intR_good a1
      refine ⟨k1, fun _ => ?_⟩
      rw [if_neg hk1, if_pos hk]
      simp only [encStp, Int.toNat_natCast]
      rw [if_neg (by decide), if_pos trivial, k2, hk, a2]
      simp [List.append_assoc]
    · split at h
      · rename_i hk1 hk2 hk
        obtain ⟨a1, a2⟩ := textR_good h
        obtain ⟨k1, k2, _⟩ := intR_good a1
        refine ⟨k1, fun hok => ?_⟩
        rw [if_neg hk1, if_neg hk2, if_pos hk] at hok ⊢
        simp only [encStp, bl_strL, Int.toNat_natCast]
        rw [if_neg (by omega), if_neg (by omega), k2, a2]
        simp [List.append_assoc]
      · rename_i hk1 hk2 hk
        obtain ⟨k1, k2, _⟩ := intR_good h
        refine ⟨k1, fun hok => ?_⟩
        rw [if_neg hk1, if_neg hk2, if_neg hk] at hok
        exfalso
        unfold stpOK at hok
        simp only at hok
        rw [if_neg (by omega), if_neg (by omega), if_neg (by omega)] at hok
        cases hok
theorem rdStps_good {bk bt bw : Nat} {all : Bool} : ∀ (n : Nat) {r : Rd}, (rdStps bk bt bw all n r).2.bad = false → r.bad = false ∧ (rdStps bk bt bw all n r).1.length = n ∧ ((rdStps bk bt bw all n r).1.all stpOK = true → r.rest = (rdStps bk bt bw all n r).1.flatMap encStp ++ (rdStps bk bt bw all n r).2.rest)
  | 0, r, h => ⟨h, rfl, fun _ => rfl⟩
  | n + 1, r, h => by
    simp only [rdStps] at h ⊢
    obtain ⟨a1, a2, a3⟩ := rdStps_good n h
    obtain ⟨b1, b2⟩ := rdStp_good a1
    refine ⟨b1, by simp [a2], fun hok => ?_⟩
    simp only [List.all_cons, Bool.and_eq_true] at hok
    rw [b2 hok.1, a3 hok.2]
    simp [List.append_assoc]
theorem rdStps_len {bk bt bw : Nat} {all : Bool} : ∀ (n : Nat) (r : Rd), (rdStps bk bt bw all n r).1.length = n
  | 0, r => rfl
  | n + 1, r => by simp [rdStps, rdStps_len n]
theorem decPrg_some {l : List UInt8} {p : Prg} (h : decPrg l = some p) : prgOK p = true ∧ encPrg p = l := by
  unfold decPrg at h
  simp only at h
  split at h
  · rename_i hq
    simp only [Bool.and_eq_true] at hq
    obtain ⟨he, hok⟩ := hq
    obtain rfl := Option.some.inj h
    refine ⟨hok, ?_⟩
    rw [endR_iff] at he
    have hb : (rdPrg 16000 3 5 1000 false l).2.bad = false := by rw [he]
    have hr : (rdPrg 16000 3 5 1000 false l).2.rest = [] := by rw [he]
    simp only [rdPrg] at hb hr hok ⊢
    obtain ⟨a1, a2, a3⟩ := rdStps_good _ hb
    obtain ⟨b1, b2, _⟩ := intR_good a1
    obtain ⟨c1, c2, _⟩ := intR_good b1
    simp only [prgOK, Bool.and_eq_true] at hok
    have a3 := a3 hok.2
    rw [hr, List.append_nil] at a3
    simp only [encPrg, Int.toNat_natCast, a2]
    have c2 : l = putV (intR 16000 ⟨l, false⟩).1 ++ (intR 16000 ⟨l, false⟩).2.rest := c2
    rw [← a3, List.append_assoc, ← b2, ← c2]
  · cases h
theorem decPrg_iff {l : List UInt8} {p : Prg} : decPrg l = some p ↔ prgOK p = true ∧ encPrg p = l := ⟨decPrg_some, fun ⟨h1, h2⟩ => by rw [← h2]; exact decPrg_enc h1⟩
/-- read with wider bounds, and checked by what its bytes would be -/
theorem decPrg_wide {b0 bk bt bw : Nat} {all : Bool} (h0 : 16000 ≤ b0) (h3 : 3 ≤ bk) (h5 : 5 ≤ bt) (h1 : 1000 ≤ bw) (l : List UInt8) :
    decPrg l = if prgOK (rdPrg b0 bk bt bw all l).1 = true ∧ endR (rdPrg b0 bk bt bw all l).2 = true ∧ encPrg (rdPrg b0 bk bt bw all l).1 = l then some (rdPrg b0 bk bt bw all l).1 else none := by
  split
  · rename_i h
    exact decPrg_iff.2 ⟨h.1, h.2.2⟩
  · rename_i h
    cases hd : decPrg l with
    | none => rfl
    | some p =>
      exfalso
      obtain ⟨h4, h6⟩ := decPrg_some hd
      subst h6
      rw [rdPrg_enc h0 h3 h5 h1 h4] at h
      exact h ⟨h4, rfl, rfl⟩
end Go.Lf
