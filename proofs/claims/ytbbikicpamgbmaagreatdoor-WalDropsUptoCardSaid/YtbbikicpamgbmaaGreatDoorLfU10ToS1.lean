/-
  Plain law, no program in sight: programs of steps and events as bytes (chapters 12 and 13).
-/
import Derived.Test.YtbbikicpamgbmaaGreatDoorLfU7ToU9
import Derived.Lib.ItoaNum
import Derived.Lib.Repeat
import Derived.Lib.ParseIntB
import Derived.Test.YtbbikicpamgbmaaGreatDoorLfV2ToS1a
import Derived.Test.YtbbikicpamgbmaaGreatDoorRows
import Derived.Lib.ItoaLen
import Derived.Lib.AppendIntMem
import Derived.WalkKit
import Derived.ProofKit
import Derived.OpenShut
import Derived.JoinedCond
import Derived.Deep.Slices
import Derived.Carry
import Derived.Shelf.SlGeneric
import Derived.Shelf.SlIter.Nil
import Derived.Shelf.SlIter.Sorted
import Derived.Shelf.SortM.Plain
import Derived.Shelf.SortM.SortNone
import Derived.Test.YtbbikicpamgbmaaGreatDoorProg
set_option maxRecDepth 100000
set_option linter.unusedVariables false
set_option linter.unusedSimpArgs false
namespace Go.Lf
open Go

abbrev bl (s : ByteArray) : List UInt8 := s.data.toList
theorem bl_size (s : ByteArray) : (bl s).length = s.size := size_list s
theorem bl_strL (l : List UInt8) : bl (strL l) = l := strL_list l
def nameOK (s : ByteArray) : Bool := decide (1 ≤ s.size ∧ s.size ≤ 16 ∧ ∀ c ∈ bl s, 33 ≤ c.toNat ∧ c.toNat ≤ 126)
theorem nameOK_iff {s : ByteArray} : nameOK s = true ↔ 1 ≤ s.size ∧ s.size ≤ 16 ∧ ∀ c ∈ bl s, 33 ≤ c.toNat ∧ c.toNat ≤ 126 := by simp [nameOK]

/-- a step -/
structure Stp where
  kind : Int
  name : ByteArray
  undo : ByteArray
  tries : Int
  undoTries : Int
  wait : Int
def Stp.cells (x : Stp) : Array Value := #[.int .i64 x.kind, .string x.name, .string x.undo, .int .i64 x.tries, .int .i64 x.undoTries, .int .i64 x.wait]
def StpE : Enc Stp where
  enc x := [.int .i64 x.kind, .string x.name, .string x.undo, .int .i64 x.tries, .int .i64 x.undoTries, .int .i64 x.wait]
  w := 6
  len _ := rfl
  pos := by omega
  one x v hv := by simp at hv; rcases hv with rfl | rfl | rfl | rfl | rfl | rfl <;> rfl
abbrev bs0' : ByteArray := ⟨#[]⟩
def inI (n lo hi : Int) : Bool := decide (lo ≤ n ∧ n ≤ hi)
theorem inI_iff {n lo hi : Int} : inI n lo hi = true ↔ lo ≤ n ∧ n ≤ hi := by simp [inI]
def stpOK (x : Stp) : Bool :=
  if x.kind = 1 then ((decide (x.undo = bs0') && decide (x.undoTries = 0)) || (nameOK x.undo && inI x.undoTries 1 5)) && nameOK x.name && inI x.tries 1 5 && decide (x.wait = 0)
  else if x.kind = 2 then decide (x.name = bs0') && decide (x.undo = bs0') && decide (x.tries = 0) && decide (x.undoTries = 0) && inI x.wait 1 1000
  else if x.kind = 3 then decide (x.undo = bs0') && decide (x.tries = 0) && decide (x.undoTries = 0) && decide (x.wait = 0) && nameOK x.name
  else false
structure Prg where
  steps : List Stp
  limit : Int
def prgOK (p : Prg) : Bool := decide (p.steps.length ≤ 16) && inI p.limit 0 16000 && p.steps.all stpOK
def encStp (x : Stp) : List UInt8 := putV x.kind.toNat ++
  (if x.kind = 1 then textL (bl x.name) ++ putV x.tries.toNat ++ textL (bl x.undo) ++ putV x.undoTries.toNat else if x.kind = 2 then putV x.wait.toNat else textL (bl x.name))
def encPrg (p : Prg) : List UInt8 := putV p.limit.toNat ++ putV p.steps.length ++ p.steps.flatMap encStp

/-- what is read of a step: the bounds of its kind, its tries and its wait -/
def rdStp (bk bt bw : Nat) (all : Bool) (r : Rd) : Stp × Rd :=
  let k := intR bk r
  if k.1 = 1 then
    let a := textR k.2
    let b := intR bt a.2
    let c := textR b.2
    let d := intR bt c.2
    (⟨1, strL a.1, strL c.1, b.1, d.1, 0⟩, d.2)
  else if k.1 = 2 then
    let a := intR bw k.2
    (⟨2, bs0', bs0', 0, 0, a.1⟩, a.2)
  else if k.1 = 3 ∨ all = true then
    let a := textR k.2
    (⟨k.1, strL a.1, bs0', 0, 0, 0⟩, a.2)
  else (⟨k.1, bs0', bs0', 0, 0, 0⟩, k.2)
def rdStps (bk bt bw : Nat) (all : Bool) : Nat → Rd → List Stp × Rd
  | 0, r => ([], r)
  | n + 1, r => let x := rdStp bk bt bw all r; let y := rdStps bk bt bw all n x.2; (x.1 :: y.1, y.2)
def rdPrg (bl' bk bt bw : Nat) (all : Bool) (l : List UInt8) : Prg × Rd :=
  let a := intR bl' ⟨l, false⟩
  let n := intR 16 a.2
  let s := rdStps bk bt bw all n.1 n.2
  (⟨s.1, a.1⟩, s.2)
/-- back from bytes -/
def decPrg (l : List UInt8) : Option Prg := let x := rdPrg 16000 3 5 1000 false l; if endR x.2 && prgOK x.1 then some x.1 else none

theorem endR_iff {r : Rd} : endR r = true ↔ r = ⟨[], false⟩ := by
  obtain ⟨l, b⟩ := r
  cases b <;> cases l <;> simp [endR]
theorem toNat_of {n lo hi : Int} (h : inI n lo hi = true) (h0 : 0 ≤ lo) : ((n.toNat : Nat) : Int) = n := by rw [inI_iff] at h; omega

theorem nameOK_ne {s : ByteArray} (h : nameOK s = true) : s ≠ bs0' := by
  rintro rfl
  rw [nameOK_iff] at h
  have : bs0'.size = 0 := rfl
  omega

theorem rdStp_enc {bk bt bw : Nat} {all : Bool} (h3 : 3 ≤ bk) (h5 : 5 ≤ bt) (h1 : 1000 ≤ bw) {x : Stp} (hx : stpOK x = true) (t : List UInt8) : rdStp bk bt bw all ⟨encStp x ++ t, false⟩ = (x, ⟨t, false⟩) := by
  obtain ⟨kind, name, undo, tries, ut, wait⟩ := x
  have sz : ∀ {s : ByteArray}, s.size ≤ 16 → (bl s).length < 18446744073709551616 := fun h => by rw [bl_size]; omega
  have nsz : ∀ {s : ByteArray}, nameOK s = true → s.size ≤ 16 := fun h => (nameOK_iff.1 h).2.1
  unfold stpOK at hx
  split at hx
  · rename_i hk
    simp only at hk
    subst hk
    simp only [Bool.and_eq_true, Bool.or_eq_true, decide_eq_true_eq] at hx
    obtain ⟨⟨⟨hu, hn⟩, ht⟩, rfl⟩ := hx
    have hus : undo.size ≤ 16 ∧ 0 ≤ ut ∧ ut ≤ 5 := by
      rcases hu with ⟨rfl, rfl⟩ | ⟨h, h'⟩
      · exact ⟨by decide, by omega, by omega⟩
      · rw [inI_iff] at h'; exact ⟨nsz h, by omega, by omega⟩
    rw [inI_iff] at ht
    have e1 := intR_put (n := (1 : Int).toNat) (most := bk) (by decide) (by simpa using (by omega : 1 ≤ bk))
    have e2 := textR_put (l := bl name) (sz (nsz hn))
    have e3 := intR_put (n := tries.toNat) (most := bt) (by omega) (by omega)
    have e4 := textR_put (l := bl undo) (sz hus.1)
    have e5 := intR_put (n := ut.toNat) (most := bt) (by omega) (by omega)
    simp only [rdStp, encStp, if_true, List.append_assoc, e1, e2, e3, e4, e5]
    rw [if_pos (by decide)]
    simp [strL_of]
    omega
  · split at hx
    · rename_i hk1 hk
      simp only at hk
      subst hk
      simp only [Bool.and_eq_true, decide_eq_true_eq] at hx
      obtain ⟨⟨⟨⟨rfl, rfl⟩, rfl⟩, rfl⟩, hw⟩ := hx
      rw [inI_iff] at hw
      have e1 := intR_put (n := (2 : Int).toNat) (most := bk) (by decide) (by simpa using (by omega : 2 ≤ bk))
      have e2 := intR_put (n := wait.toNat) (most := bw) (by omega) (by omega)
      simp only [rdStp, encStp, if_true, List.append_assoc, e1]
      rw [if_neg (by decide), if_pos (by decide), if_neg (by decide), e2]
      simp
      omega
    · split at hx
      · rename_i hk1 hk2 hk
        simp only at hk
        subst hk
        simp only [Bool.and_eq_true, decide_eq_true_eq] at hx
        obtain ⟨⟨⟨⟨rfl, rfl⟩, rfl⟩, rfl⟩, hn⟩ := hx
        have e1 := intR_put (n := (3 : Int).toNat) (most := bk) (by decide) (by simpa using h3)
        have e2 := textR_put (l := bl name) (sz (nsz hn))
        simp only [rdStp, encStp, if_true, List.append_assoc, e1]
        rw [if_neg (by decide), if_neg (by decide), if_pos (.inl (by decide)), if_neg (by decide), if_neg (by decide), e2]
        simp [strL_of]
      · cases hx
theorem rdStps_enc {bk bt bw : Nat} {all : Bool} (h3 : 3 ≤ bk) (h5 : 5 ≤ bt) (h1 : 1000 ≤ bw) (t : List UInt8) : ∀ {l : List Stp}, l.all stpOK = true → rdStps bk bt bw all l.length ⟨l.flatMap encStp ++ t, false⟩ = (l, ⟨t, false⟩)
  | [], _ => rfl
  | x :: l, h => by
    simp only [List.all_cons, Bool.and_eq_true] at h
    simp only [List.length_cons, rdStps, List.flatMap_cons, List.append_assoc, rdStp_enc h3 h5 h1 h.1, rdStps_enc h3 h5 h1 t h.2]
theorem rdPrg_enc {b0 bk bt bw : Nat} {all : Bool} (h0 : 16000 ≤ b0) (h3 : 3 ≤ bk) (h5 : 5 ≤ bt) (h1 : 1000 ≤ bw) {p : Prg} (hp : prgOK p = true) : rdPrg b0 bk bt bw all (encPrg p) = (p, ⟨[], false⟩) := by
  obtain ⟨l, lim⟩ := p
  simp only [prgOK, Bool.and_eq_true, decide_eq_true_eq] at hp
  obtain ⟨⟨hl, hlim⟩, ha⟩ := hp
  have hlim' := inI_iff.1 hlim
  have e1 := intR_put (n := lim.toNat) (most := b0) (by omega) (by omega)
  have e2 := intR_put (n := l.length) (most := 16) (by omega) hl
  have e3 := rdStps_enc (all := all) h3 h5 h1 [] ha
  rw [List.append_nil] at e3
  simp only [rdPrg, encPrg, List.append_assoc, e1, e2, e3, toNat_of hlim (by decide)]
theorem decPrg_enc {p : Prg} (hp : prgOK p = true) : decPrg (encPrg p) = some p := by
  simp only [decPrg, rdPrg_enc (Nat.le_refl _) (Nat.le_refl _) (Nat.le_refl _) (Nat.le_refl _) hp, hp]
  rfl

theorem rdStp_good {bk bt bw : Nat} {all : Bool} {r : Rd} (h : (rdStp bk bt bw all r).2.bad = false) : r.bad = false ∧ (stpOK (rdStp bk bt bw all r).1 = true → r.rest = encStp (rdStp bk bt bw all r).1 ++ (rdStp bk bt bw all r).2.rest) := by
  unfold rdStp at h ⊢
  simp only at h ⊢
  split at h
  · rename_i hk
    obtain ⟨d1, d2, _⟩ := intR_good h
    obtain ⟨c1, c2⟩ := textR_good d1
    obtain ⟨b1, b2, _⟩ := intR_good c1
    obtain ⟨a1, a2⟩ := textR_good b1
    obtain ⟨k1, k2, _⟩ := intR_good a1
    refine ⟨k1, fun _ => ?_⟩
    rw [if_pos hk]
    simp only [encStp, if_true, bl_strL, Int.toNat_natCast]
    rw [k2, hk, a2, b2, c2, d2]
    simp [List.append_assoc]
  · split at h
    · rename_i hk1 hk
      obtain ⟨a1, a2, _⟩ := intR_good h
      obtain ⟨k1, k2, _⟩ := intR_good a1
      refine ⟨k1, fun _ => ?_⟩
      rw [if_neg hk1, if_pos hk]
      simp only [encStp, Int.toNat_natCast]
      rw [if_neg (by decide), if_pos trivial, k2, hk, a2]
      simp [List.append_assoc]
    · split at h
      · rename_i hk1 hk2 hk
        obtain ⟨a1, a2⟩ := textR_good h
        obtain ⟨k1, k2, _⟩ := intR_good a1
        refine ⟨k1, fun hok => ?_⟩
        rw [if_neg hk1, if_neg hk2, if_pos hk] at hok ⊢
        simp only [encStp, bl_strL, Int.toNat_natCast]
        rw [if_neg (by omega), if_neg (by omega), k2, a2]
        simp [List.append_assoc]
      · rename_i hk1 hk2 hk
        obtain ⟨k1, k2, _⟩ := intR_good h
        refine ⟨k1, fun hok => ?_⟩
        rw [if_neg hk1, if_neg hk2, if_neg hk] at hok
        exfalso
        unfold stpOK at hok
        simp only at hok
        rw [if_neg (by omega), if_neg (by omega), if_neg (by omega)] at hok
        cases hok
theorem rdStps_good {bk bt bw : Nat} {all : Bool} : ∀ (n : Nat) {r : Rd}, (rdStps bk bt bw all n r).2.bad = false → r.bad = false ∧ (rdStps bk bt bw all n r).1.length = n ∧ ((rdStps bk bt bw all n r).1.all stpOK = true → r.rest = (rdStps bk bt bw all n r).1.flatMap encStp ++ (rdStps bk bt bw all n r).2.rest)
  | 0, r, h => ⟨h, rfl, fun _ => rfl⟩
  | n + 1, r, h => by
    simp only [rdStps] at h ⊢
    obtain ⟨a1, a2, a3⟩ := rdStps_good n h
    obtain ⟨b1, b2⟩ := rdStp_good a1
    refine ⟨b1, by simp [a2], fun hok => ?_⟩
    simp only [List.all_cons, Bool.and_eq_true] at hok
    rw [b2 hok.1, a3 hok.2]
    simp [List.append_assoc]
theorem rdStps_len {bk bt bw : Nat} {all : Bool} : ∀ (n : Nat) (r : Rd), (rdStps bk bt bw all n r).1.length = n
  | 0, r => rfl
  | n + 1, r => by simp [rdStps, rdStps_len n]
theorem decPrg_some {l : List UInt8} {p : Prg} (h : decPrg l = some p) : prgOK p = true ∧ encPrg p = l := by
  unfold decPrg at h
  simp only at h
  split at h
  · rename_i hq
    simp only [Bool.and_eq_true] at hq
    obtain ⟨he, hok⟩ := hq
    obtain rfl := Option.some.inj h
    refine ⟨hok, ?_⟩
    rw [endR_iff] at he
    have hb : (rdPrg 16000 3 5 1000 false l).2.bad = false := by rw [he]
    have hr : (rdPrg 16000 3 5 1000 false l).2.rest = [] := by rw [he]
    simp only [rdPrg] at hb hr hok ⊢
    obtain ⟨a1, a2, a3⟩ := rdStps_good _ hb
    obtain ⟨b1, b2, _⟩ := intR_good a1
    obtain ⟨c1, c2, _⟩ := intR_good b1
    simp only [prgOK, Bool.and_eq_true] at hok
    have a3 := a3 hok.2
    rw [hr, List.append_nil] at a3
    simp only [encPrg, Int.toNat_natCast, a2]
    have c2 : l = putV (intR 16000 ⟨l, false⟩).1 ++ (intR 16000 ⟨l, false⟩).2.rest := c2
    rw [← a3, List.append_assoc, ← b2, ← c2]
  · cases h
theorem decPrg_iff {l : List UInt8} {p : Prg} : decPrg l = some p ↔ prgOK p = true ∧ encPrg p = l := ⟨decPrg_some, fun ⟨h1, h2⟩ => by rw [← h2]; exact decPrg_enc h1⟩
/-- read with wider bounds, and checked by what its bytes would be -/
theorem decPrg_wide {b0 bk bt bw : Nat} {all : Bool} (h0 : 16000 ≤ b0) (h3 : 3 ≤ bk) (h5 : 5 ≤ bt) (h1 : 1000 ≤ bw) (l : List UInt8) :
    decPrg l = if prgOK (rdPrg b0 bk bt bw all l).1 = true ∧ endR (rdPrg b0 bk bt bw all l).2 = true ∧ encPrg (rdPrg b0 bk bt bw all l).1 = l then some (rdPrg b0 bk bt bw all l).1 else none := by
  split
  · rename_i h
    exact decPrg_iff.2 ⟨h.1, h.2.2⟩
  · rename_i h
    cases hd : decPrg l with
    | none => rfl
    | some p =>
      exfalso
      obtain ⟨h4, h6⟩ := decPrg_some hd
      subst h6
      rw [rdPrg_enc h0 h3 h5 h1 h4] at h
      exact h ⟨h4, rfl, rfl⟩
end Go.Lf

/-
  Names of numbered files, and bytes read frame by frame.
-/
set_option maxRecDepth 100000
set_option linter.unusedVariables false
set_option linter.unusedSimpArgs false
namespace Go.Lf
open Go

/-! ### numerals of eight digits -/
def pad8 (n : Nat) : List UInt8 := Lib.repeatL [48] (8 - (Lib.decDigits n).length) ++ Lib.decDigits n
def valD (a : Nat) (l : List UInt8) : Nat := l.foldl (fun a c => a * 10 + (c.toNat - 48)) a
def Dig (l : List UInt8) : Prop := ∀ c ∈ l, 48 ≤ c.toNat ∧ c.toNat ≤ 57
theorem dig_nat {d : Nat} (h : d < 10) : (UInt8.ofNat (48 + d)).toNat = 48 + d := by
  simp only [UInt8.toNat_ofNat']
  omega
theorem dec_dig : ∀ n : Nat, Dig (Lib.decDigits n) ∧ valD 0 (Lib.decDigits n) = n := by
  intro n
  induction n using Nat.strongRecOn with
  | ind n ih =>
    by_cases h : n < 10
    · rw [Lib.decDigits, dif_pos h]
      refine ⟨fun c hc => ?_, ?_⟩
      · rw [List.mem_singleton.1 hc, dig_nat h]; omega
      · simp only [valD, List.foldl_cons, List.foldl_nil, dig_nat h]; omega
    · rw [Lib.decDigits, dif_neg h]
      obtain ⟨h1, h2⟩ := ih (n / 10) (by omega)
      have h3 : n % 10 < 10 := Nat.mod_lt _ (by decide)
      refine ⟨fun c hc => ?_, ?_⟩
      · rcases List.mem_append.1 hc with hc | hc
        · exact h1 c hc
        · rw [List.mem_singleton.1 hc, dig_nat h3]; omega
      · unfold valD at h2 ⊢
        rw [List.foldl_append, h2]
        simp only [List.foldl_cons, List.foldl_nil, dig_nat h3]; omega
theorem zeros_dig : ∀ k : Nat, Dig (Lib.repeatL [48] k) ∧ ∀ l, valD 0 (Lib.repeatL [48] k ++ l) = valD 0 l
  | 0 => ⟨fun c hc => (by cases hc), fun l => rfl⟩
  | k + 1 => by
    obtain ⟨h1, h2⟩ := zeros_dig k
    refine ⟨fun c hc => ?_, fun l => ?_⟩
    · rcases List.mem_append.1 hc with hc | hc
      · rw [List.mem_singleton.1 hc]; decide
      · exact h1 c hc
    · show valD 0 (([48] ++ Lib.repeatL [48] k) ++ l) = _
      rw [List.append_assoc]
      exact h2 l
theorem pad8_dig (n : Nat) : Dig (pad8 n) ∧ valD 0 (pad8 n) = n := by
  refine ⟨fun c hc => ?_, ?_⟩
  · rcases List.mem_append.1 hc with hc | hc
    · exact (zeros_dig _).1 c hc
    · exact (dec_dig n).1 c hc
  · exact ((zeros_dig _).2 _).trans (dec_dig n).2
theorem valD_ge : ∀ (l : List UInt8) (a : Nat), a ≤ valD a l
  | [], a => Nat.le_refl _
  | c :: l, a => by
    have := valD_ge l (a * 10 + (c.toNat - 48))
    have h : valD a (c :: l) = valD (a * 10 + (c.toNat - 48)) l := rfl
    rw [h]; omega
theorem parse_val : ∀ (l : List UInt8) (a : Nat), Dig l → valD a l ≤ 4294967295 → Lib.parseUintM 4294967295 a l = .ok (valD a l)
  | [], a, _, _ => rfl
  | c :: l, a, hd, hv => by
    have h : valD a (c :: l) = valD (a * 10 + (c.toNat - 48)) l := rfl
    rw [h] at hv ⊢
    have hc := hd c (by simp)
    have hg := valD_ge l (a * 10 + (c.toNat - 48))
    unfold Lib.parseUintM
    rw [if_pos hc, if_neg (by omega), if_neg (by omega)]
    exact parse_val l _ (fun x hx => hd x (List.mem_cons_of_mem _ hx)) hv
theorem parse_le : ∀ (l : List UInt8) (a : Nat) {u : Nat}, a ≤ 4294967295 → Lib.parseUintM 4294967295 a l = .ok u → u ≤ 4294967295
  | [], a, u, h, hp => by
    unfold Lib.parseUintM at hp
    injection hp with hp
    omega
  | c :: l, a, u, h, hp => by
    unfold Lib.parseUintM at hp
    split at hp
    · split at hp
      · cases hp
      · split at hp
        · cases hp
        · exact parse_le l _ (by omega) hp
    · cases hp
theorem pad8_parse {n : Nat} (h : n ≤ 4294967295) : Lib.parseUintB 32 (pad8 n) = .ok n := by
  obtain ⟨h1, h2⟩ := pad8_dig n
  have hne : pad8 n ≠ [] := by
    intro he
    have hz : Lib.decDigits n = [] := (List.append_eq_nil_iff.1 he).2
    have hl := congrArg List.length hz
    rw [Lib.decDigits_length] at hl
    have := Lib.nDigits_pos n
    simp at hl; omega
  unfold Lib.parseUintB
  rw [if_neg hne]
  have := parse_val (pad8 n) 0 h1 (by rw [h2]; exact h)
  rw [h2] at this
  exact this
theorem pad8_inj {n k : Nat} (h : pad8 n = pad8 k) : n = k := by
  have h1 := (pad8_dig n).2
  rw [h, (pad8_dig k).2] at h1
  exact h1.symm
theorem nDigits_le {k : Nat} : ∀ {n : Nat}, n < 10 ^ (k + 1) → Lib.nDigits n ≤ k + 1 := by
  induction k with
  | zero => intro n h; rw [Lib.nDigits_small (by simpa using h)]; omega
  | succ k ih =>
    intro n h
    by_cases hn : n < 10
    · rw [Lib.nDigits_small hn]; omega
    · rw [Lib.nDigits_big hn]
      have := ih (n := n / 10) (by rw [Nat.pow_succ] at h; omega)
      omega
theorem pad8_len {n : Nat} (h : n ≤ 99999999) : (pad8 n).length = 8 := by
  have h1 := nDigits_le (k := 7) (n := n) (by have : (10 : Nat) ^ (7 + 1) = 100000000 := by decide
                                              omega)
  simp only [pad8, List.length_append, Lib.repeatL_length, Lib.decDigits_length, List.length_singleton]
  omega
theorem pad8_small {n : Nat} (h : (pad8 n).length = 8) : n ≤ 99999999 := by
  have h1 : Lib.nDigits n ≤ 8 := by
    simp only [pad8, List.length_append, Lib.repeatL_length, Lib.decDigits_length, List.length_singleton] at h
    omega
  have h2 := Lib.lt_pow_nDigits n
  have h3 : (10 : Nat) ^ Lib.nDigits n ≤ 10 ^ 8 := Nat.pow_le_pow_right (by decide) h1
  have : (10 : Nat) ^ 8 = 100000000 := by decide
  omega

/-- a numbered file's name -/
def fnB (nm : ByteArray) (n : Nat) : ByteArray := nm ++ strL (pad8 n)
theorem fnB_bl (nm : ByteArray) (n : Nat) : bl (fnB nm n) = bl nm ++ pad8 n := by
  show (nm ++ strL (pad8 n)).data.toList = nm.data.toList ++ pad8 n
  rw [ByteArray.data_append, Array.toList_append]; exact congrArg _ (strL_list _)
theorem fnB_inj {nm : ByteArray} {n k : Nat} (h : fnB nm n = fnB nm k) : n = k := by
  have h1 := congrArg bl h
  rw [fnB_bl, fnB_bl] at h1
  exact pad8_inj (List.append_cancel_left h1)
theorem fnB_size {nm : ByteArray} {n : Nat} (h : n ≤ 99999999) : (fnB nm n).size = nm.size + 8 := by
  rw [fnB, ByteArray.size_append, strL_size, pad8_len h]

/-! ### frame by frame -/
inductive Scan : List UInt8 → List (List UInt8) → Prop
  | stop {l : List UInt8} (h : (nextL l).1 ≠ 0) : Scan l []
  | step {l : List UInt8} {rs : List (List UInt8)} (h : (nextL l).1 = 0) (s : Scan (nextL l).2.2 rs) : Scan l ((nextL l).2.1 :: rs)
theorem next_rest {l : List UInt8} (h : (nextL l).1 = 0) : (nextL l).2.1.length + (nextL l).2.2.length < l.length := by
  unfold nextL at h ⊢
  cases hg : getV 0 0 l with
  | none => rw [hg] at h; dsimp only at h; split at h <;> cases h
  | some p =>
    obtain ⟨n, t⟩ := p
    rw [hg] at h
    obtain ⟨e, _⟩ := getV0 hg
    have ht : t.length ≤ l.length := by rw [e]; simp
    dsimp only at h ⊢
    split at h
    · cases h
    · rename_i h1
      split at h
      · cases h
      · rename_i h2
        split at h
        · rename_i h3
          rw [if_neg h1, if_neg h2, if_pos h3]
          simp only [List.length_take, List.length_drop]
          omega
        · cases h
theorem scan_ex : ∀ (k : Nat) (l : List UInt8), l.length ≤ k → ∃ rs, Scan l rs ∧ (rs.map (·.length + 1)).sum ≤ l.length
  | 0, l, h => by
    have : l = [] := List.eq_nil_of_length_eq_zero (by omega)
    subst this
    exact ⟨[], .stop (by decide), by simp⟩
  | k + 1, l, h => by
    by_cases hn : (nextL l).1 = 0
    · have h1 := next_rest hn
      obtain ⟨rs, h2, h3⟩ := scan_ex k (nextL l).2.2 (by omega)
      exact ⟨_, .step hn h2, by simp only [List.map_cons, List.sum_cons]; omega⟩
    · exact ⟨[], .stop hn, by simp⟩
theorem Scan.uniq {l : List UInt8} {rs ts : List (List UInt8)} (h : Scan l rs) : Scan l ts → rs = ts := by
  induction h generalizing ts with
  | stop h =>
    intro h2
    cases h2 with
    | stop => rfl
    | step h3 => exact absurd h3 h
  | step h s ih =>
    intro h2
    cases h2 with
    | stop h3 => exact absurd h h3
    | step h3 s3 => rw [ih s3]
noncomputable def scanL (l : List UInt8) : List (List UInt8) := (scan_ex l.length l (Nat.le_refl _)).choose
theorem scanL_is (l : List UInt8) : Scan l (scanL l) := (scan_ex l.length l (Nat.le_refl _)).choose_spec.1
theorem scanL_len (l : List UInt8) : ((scanL l).map (·.length + 1)).sum ≤ l.length := (scan_ex l.length l (Nat.le_refl _)).choose_spec.2
theorem scanL_of {l : List UInt8} {rs : List (List UInt8)} (h : Scan l rs) : scanL l = rs := (scanL_is l).uniq h

abbrev wraps (rs : List (List UInt8)) : List UInt8 := rs.flatMap wrapL
theorem scan_wraps {rs : List (List UInt8)} (hs : ∀ r ∈ rs, r.length ≤ 1048576) {t : List UInt8} (ht : (nextL t).1 ≠ 0) : Scan (wraps rs ++ t) rs := by
  induction rs with
  | nil => exact .stop ht
  | cons r rs ih =>
    have h1 := next_wrap (l := r) (hs r (by simp)) (wraps rs ++ t)
    have e : wraps (r :: rs) ++ t = wrapL r ++ (wraps rs ++ t) := by simp
    rw [e]
    have := Scan.step (l := wrapL r ++ (wraps rs ++ t)) (rs := rs) (by rw [h1]) (by rw [h1]; exact ih fun x hx => hs x (List.mem_cons_of_mem _ hx))
    rw [h1] at this
    exact this
theorem next_nil : (nextL []).1 ≠ 0 := by decide
theorem next_torn {r : List UInt8} (hr : r.length ≤ 1048576) {n : Nat} (hn : n < (wrapL r).length) : (nextL ((wrapL r).take n)).1 ≠ 0 := by
  have hq : (wrapL r).take n ++ (wrapL r).drop n = wrapL r := List.take_append_drop _ _
  have hql : ((wrapL r).drop n).length ≠ 0 := by rw [List.length_drop]; omega
  generalize (wrapL r).take n = p at *
  generalize (wrapL r).drop n = q at *
  unfold nextL
  cases hg : getV 0 0 p with
  | none => dsimp only; split <;> simp
  | some z =>
    obtain ⟨k, t⟩ := z
    obtain ⟨e, hk⟩ := getV0 hg
    have h1 : getV 0 0 (wrapL r) = some (k, t ++ q) := by rw [← hq, e, List.append_assoc]; exact getV0_put hk _
    have h2 : getV 0 0 (wrapL r) = some (r.length, markL (crcL r) ++ r) := by unfold wrapL; rw [List.append_assoc]; exact getV0_put (by omega) _
    rw [h1] at h2
    obtain ⟨rfl, h3⟩ := Prod.mk.inj (Option.some.inj h2)
    have h4 := congrArg List.length h3
    simp only [List.length_append, markL_len] at h4
    dsimp only
    rw [if_neg (by omega), if_pos (by omega)]
    simp
/-- a first part of frames is read as the first ones of them -/
theorem scan_part {rs : List (List UInt8)} (hs : ∀ r ∈ rs, r.length ≤ 1048576) : ∀ n : Nat, ∃ j, j ≤ rs.length ∧ Scan ((wraps rs).take n) (rs.take j) ∧ ∀ f, f ≤ rs.length → (wraps (rs.take f)).length ≤ n → f ≤ j := by
  induction rs with
  | nil => intro n; exact ⟨0, Nat.le_refl _, by simpa using Scan.stop next_nil, fun f hf _ => hf⟩
  | cons r rs ih =>
    intro n
    have hr := hs r (by simp)
    have e : wraps (r :: rs) = wrapL r ++ wraps rs := by simp
    by_cases hn : n < (wrapL r).length
    · refine ⟨0, Nat.zero_le _, ?_, fun f hf hl => ?_⟩
      · rw [e, List.take_append_of_le_length (Nat.le_of_lt hn)]
        exact .stop (next_torn hr hn)
      · cases f with
        | zero => exact Nat.le_refl _
        | succ f =>
          have : (wraps ((r :: rs).take (f + 1))).length = (wrapL r).length + (wraps (rs.take f)).length := by simp
          omega
    · obtain ⟨j, h1, h2, h3⟩ := ih (fun x hx => hs x (List.mem_cons_of_mem _ hx)) (n - (wrapL r).length)
      have e2 : (wraps (r :: rs)).take n = wrapL r ++ (wraps rs).take (n - (wrapL r).length) := by
        rw [e, List.take_append]
        rw [List.take_of_length_le (by omega)]
      refine ⟨j + 1, by simp; exact h1, ?_, fun f hf hl => ?_⟩
      · rw [e2]
        have h4 := next_wrap (l := r) hr ((wraps rs).take (n - (wrapL r).length))
        have := Scan.step (l := wrapL r ++ (wraps rs).take (n - (wrapL r).length)) (rs := rs.take j) (by rw [h4]) (by rw [h4]; exact h2)
        rw [h4] at this
        exact this
      · cases f with
        | zero => exact Nat.zero_le _
        | succ f =>
          have : (wraps ((r :: rs).take (f + 1))).length = (wrapL r).length + (wraps (rs.take f)).length := by simp
          have := h3 f (by simpa using hf) (by omega)
          omega
theorem wrapL_len {r : List UInt8} (h : r.length ≤ 1048576) : r.length + 5 ≤ (wrapL r).length ∧ (wrapL r).length ≤ r.length + 14 := by
  have h1 := putV_len10 (n := r.length) (by omega)
  have h2 : 1 ≤ (putV r.length).length := by
    rw [putV]; split <;> simp
  simp only [wrapL, List.length_append, markL_len]
  omega
end Go.Lf

/-
  Contracts: a log's files' names (chapter 4).
-/
set_option maxRecDepth 100000
set_option linter.unusedVariables false
set_option linter.unusedSimpArgs false
namespace Go.Lf.G
open Go

/-- the library's table of powers of ten lies where it lies; so do its two errors -/
def tabName : String := Proofs.YtbbikicpamgbmaaGreatDoor.Rows.walTimesRow.named.getD 2 (String.ofList [])
def Tab (h : Heap) : Prop := ∀ (A : Amb) (n : Nat), Lib.TabIs P (A.at h n) tabName .u64 Lib.pow10Tab
theorem Tab.ext {h h' : Heap} (t : Tab h) (x : Ext h h') : Tab h' := by
  intro A n
  have h1 := (Lib.tabBelow_of_tabIs (t A n)) (A.at h' n) ⟨rfl, rfl, rfl, x.size, fun k hk => x.get k hk (fun h => h)⟩
  exact h1
def ErrAt (h : Heap) (g : Nat) : Prop := ∃ ev, hget h ⟨g, 0, none⟩ = some ev ∧ (ev = .nilIface ∨ ∃ te pe, ev = .iface te pe)
theorem ErrAt.ext {h h' : Heap} {g : Nat} (e : ErrAt h g) (x : Ext h h') : ErrAt h' g := by
  obtain ⟨ev, h1, h2⟩ := e
  exact ⟨ev, x.hget h1, h2⟩
structure Evn (h : Heap) : Prop where
  tab : Tab h
  syn : ErrAt h (Proofs.Tryz.laysPu14_ren.g 0)
  rng : ErrAt h (Proofs.Tryz.laysPu14_ren.g 1)
theorem Evn.ext {h h' : Heap} (e : Evn h) (x : Ext h h') : Evn h' := ⟨e.tab.ext x, e.syn.ext x, e.rng.ext x⟩

theorem below_at {A : Amb} {h : Heap} {n : Nat} {w : World} (b : RowKit.Below h.size (A.at h n) w) : w = A.at w.heap w.drawn ∧ Ext h w.heap := by
  obtain ⟨h1, h2, h3, h4, h5⟩ := b
  refine ⟨?_, ⟨h4, fun c hc _ => h5 c hc⟩⟩
  cases w
  simp only [Amb.at] at h1 h2 h3 ⊢
  subst h1 h2 h3
  rfl
theorem cell_hget {A : Amb} {h : Heap} {n : Nat} {a : Addr} {v : Value} (e : hget h a = some v) : (A.at h n).cell? a = some v := by
  unfold hget at e
  unfold World.cell?
  exact e

theorem Itoa_ok {A : Amb} {h : Heap} {n : Int} {R : Value → Heap → Prop} (t : Tab h) (h0 : -9223372036854775808 ≤ n) (h1 : n ≤ 9223372036854775807) (H : ∀ h', Ext h h' → R (.string ⟨(Lib.itoa n).toArray⟩) h') :
    HCalls A P f_strconv_Itoa #[.int .i64 n] h R := by
  intro m
  refine Calls.mono (Proofs.Any.strconv_Itoa Proofs.Tryz.laysM171 n h0 h1 (A.at h m) (t A m)) ?_
  rintro e w' ⟨rfl, k, os, rfl⟩
  refine ⟨_, rfl, h ++ os, m + k, rfl, H _ ⟨by simp, fun b hb _ => by rw [Array.getElem?_append_left hb]⟩⟩
theorem Repeat_ok {A : Amb} {h : Heap} {s : ByteArray} {c : Nat} {R : Value → Heap → Prop} (hc : c ≤ 8) (hs : s.size ≤ 8) (H : ∀ h', Ext h h' → R (.string (strL (Lib.repeatL (bl s) c))) h') :
    HCalls A P f_strings_Repeat #[.string s, .int .i64 c] h R := by
  intro m
  have hm : s.size * c ≤ 8 * 8 := Nat.mul_le_mul hs hc
  refine Calls.mono (Proofs.Any.strings_Repeat Proofs.Tryz.lays105 Proofs.Tryz.extra105 s c (A.at h m) (by omega) (by omega)) ?_
  rintro e w' ⟨rfl, hB⟩
  obtain ⟨e1, x⟩ := below_at hB
  exact ⟨_, rfl, w'.heap, w'.drawn, e1, H _ x⟩
theorem CutPrefix_ok {A : Amb} {h : Heap} {s p : ByteArray} {R : Value → Heap → Prop} (H : R (.tuple #[.string (strL (Lib.trimPrefix (bl s) (bl p))), .bool (Lib.hasPrefix (bl s) (bl p))]) h) :
    HCalls A P f_strings_CutPrefix #[.string s, .string p] h R := by
  intro m
  refine Calls.mono (Proofs.Any.strings_CutPrefix Proofs.Tryz.lays103 s p (A.at h m)) ?_
  rintro e w' ⟨rfl, rfl⟩
  exact ⟨_, rfl, h, m, rfl, H⟩
theorem Parse_ok {A : Amb} {h : Heap} {s : ByteArray} {R : Value → Heap → Prop} (E : Evn h) (hs : s.size ≤ 8)
    (H0 : ∀ u : Nat, Lib.parseUintB 32 (bl s) = .ok u → ∀ h', Ext h h' → R (.tuple #[.int .u64 u, .nilIface]) h')
    (H1 : (∀ u, Lib.parseUintB 32 (bl s) ≠ .ok u) → ∀ h' (n : Int) t v, Ext h h' → R (.tuple #[.int .u64 n, .iface t v]) h') :
    HCalls A P f_strconv_ParseUint #[.string s, .int .i64 10, .int .i64 32] h R := by
  intro m
  cases hp : Lib.parseUintB 32 (bl s)
  · rename_i u
    refine Calls.mono (Proofs.Any.strconv_ParseUint_10_at32_ok Proofs.Tryz.laysPu14 s (by omega) u hp (A.at h m)) ?_
    rintro e w' ⟨rfl, hw | hw⟩
    · subst hw
      exact ⟨_, rfl, h, m, rfl, H0 u hp h Mod.refl⟩
    · subst hw
      refine ⟨_, rfl, _, _, rfl, H0 u hp _ ?_⟩
      refine ⟨?_, fun b hb _ => ?_⟩
      · simp [Lib.bytesWorld, World.freeze, World.alloc, World.drew, Amb.at]
      · simp [Lib.bytesWorld, World.freeze, World.alloc, World.drew, Amb.at, Array.getElem?_modify, Array.getElem?_push]
        rw [if_neg (by omega), if_neg (by omega)]
  · obtain ⟨ev, h1, h2⟩ := E.syn
    refine Calls.mono (Proofs.Any.strconv_ParseUint_10_at32_syntax Proofs.Tryz.laysPu14 s (by omega) hp ev (A.at h m) (cell_hget h1) h2) ?_
    rintro e w' ⟨N, rfl, _, _, hB⟩
    obtain ⟨e1, x⟩ := below_at hB
    exact ⟨_, rfl, w'.heap, w'.drawn, e1, H1 (fun u hu => by rw [hp] at hu; cases hu) _ _ _ _ x⟩
  · obtain ⟨ev, h1, h2⟩ := E.rng
    refine Calls.mono (Proofs.Any.strconv_ParseUint_10_at32_range Proofs.Tryz.laysPu14 s (by omega) hp ev (A.at h m) (cell_hget h1) h2) ?_
    rintro e w' ⟨N, rfl, _, _, hB⟩
    obtain ⟨e1, x⟩ := below_at hB
    exact ⟨_, rfl, w'.heap, w'.drawn, e1, H1 (fun u hu => by rw [hp] at hu; cases hu) _ _ _ _ x⟩

/-! ### file, number -/
theorem file_ok {A : Amb} {h : Heap} {nm : ByteArray} {n : Nat} {R : Value → Heap → Prop} (E : Evn h) (hn : n ≤ 4294967295) (hnm : nm.size ≤ 1099511627776) (H : ∀ h', Ext h h' → R (.string (fnB nm n)) h') :
    HCalls A P f_wal_file #[.string nm, .int .i64 n] h R := by
  refine ok_wal_file ?_
  unfold F_wal_file
  refine Itoa_ok E.tab (by omega) (by omega) fun h1 x1 => ⟨_, rfl, ?_⟩
  have e1 : Lib.itoa (n : Int) = Lib.decDigits n := Lib.itoa_nonneg n
  rw [e1]
  have hl : (⟨(Lib.decDigits n).toArray⟩ : ByteArray).size = (Lib.decDigits n).length := by simp [ByteArray.size]
  have h20 : (Lib.decDigits n).length ≤ 20 := by rw [Lib.decDigits_length]; exact Lib.nDigits_le20 n (by omega)
  have e2 : (if ((IntKind.wrap .i64 ((8 : Int) - (((⟨(Lib.decDigits n).toArray⟩ : ByteArray).size : Nat) : Int))) : Int) > 0 then (IntKind.wrap .i64 ((8 : Int) - (((⟨(Lib.decDigits n).toArray⟩ : ByteArray).size : Nat) : Int))) else 0) = ((8 - (Lib.decDigits n).length : Nat) : Int) := by
    rw [hl, wrap_i64 (by omega) (by omega)]
    split <;> omega
  rw [e2]
  refine Repeat_ok (by omega) (by decide) fun h2 x2 => ⟨_, rfl, ?_, ?_, ?_⟩
  · have : (strL (Lib.repeatL (bl ⟨#[48]⟩) (8 - (Lib.decDigits n).length))).size ≤ 8 := by
      rw [strL_size, Lib.repeatL_length]; simp [bl]
    rw [max_i64]; omega
  · have : (strL (Lib.repeatL (bl ⟨#[48]⟩) (8 - (Lib.decDigits n).length))).size ≤ 8 := by
      rw [strL_size, Lib.repeatL_length]; simp [bl]
    rw [ByteArray.size_append, max_i64, hl]; omega
  · have := H h2 (x1.trans x2)
    have e3 : fnB nm n = (nm ++ strL (Lib.repeatL (bl ⟨#[48]⟩) (8 - (Lib.decDigits n).length))) ++ ⟨(Lib.decDigits n).toArray⟩ := by
      rw [fnB, pad8, ← strL_app, ByteArray.append_assoc]; rfl
    rw [e3] at this
    exact this

/-- a file's number, or nothing -/
theorem number_ok {A : Amb} {h : Heap} {nm s : ByteArray} {R : Value → Heap → Prop} (E : Evn h) (hnm : nm.size ≤ 1099511627776) (hs : s.size ≤ 1099511627776)
    (H : ∀ h' (n : Nat), Ext h h' → (n = 0 → ∀ k : Nat, 1 ≤ k → k ≤ 99999999 → s ≠ fnB nm k) → (n ≠ 0 → n ≤ 99999999 ∧ s = fnB nm n) → R (.int .i64 n) h') :
    HCalls A P f_wal_number #[.string nm, .string s] h R := by
  refine ok_wal_number ?_
  unfold F_wal_number
  have none_ok : ∀ h', Ext h h' → (∀ k : Nat, 1 ≤ k → k ≤ 99999999 → s ≠ fnB nm k) → R (.int .i64 0) h' := fun h' x hk => H h' 0 x (fun _ => hk) (fun h => absurd rfl h)
  refine CutPrefix_ok ⟨_, _, rfl, ?_⟩
  cases hp : Lib.hasPrefix (bl s) (bl nm) with
  | false =>
    refine Join.mk fun K hK => PIf.yes rfl (hK _ _ (PIf.yes rfl (none_ok h Mod.refl fun k _ _ e => ?_)))
    subst e
    rw [fnB_bl] at hp
    unfold Lib.hasPrefix at hp
    rw [Bool.eq_false_iff] at hp
    exact hp (List.isPrefixOf_iff_prefix.2 (List.prefix_append _ _))
  | true =>
    have hpre := hp
    unfold Lib.hasPrefix at hpre
    obtain ⟨d, hd⟩ := List.isPrefixOf_iff_prefix.1 hpre
    have ht : Lib.trimPrefix (bl s) (bl nm) = d := by
      unfold Lib.trimPrefix
      rw [if_pos hp, ← hd]
      simp
    rw [ht]
    refine Join.mk fun K hK => PIf.no rfl ?_
    have bad : ∀ b : Bool, b = true → (∀ k : Nat, 1 ≤ k → k ≤ 99999999 → s ≠ fnB nm k) → K (b, ()) h := fun b hb hk => hK _ _ (PIf.yes hb (none_ok h Mod.refl hk))
    have hsz : (strL d).size = d.length := strL_size d
    by_cases h8 : d.length = 8
    · refine hK _ _ (PIf.no (by simp [hsz, h8]) ?_)
      have hbl : bl (strL d) = d := bl_strL d
      refine Parse_ok E (by omega) (fun u hu h1 x1 => ⟨_, _, rfl, ?_⟩) (fun hu h1 n t v x1 => ⟨_, _, rfl, Join.mk fun K1 hK1 => ?_⟩)
      · rw [hbl] at hu
        have hu32 : u ≤ 4294967295 := by
          have : Lib.parseUintB 32 d = .ok u := hu
          unfold Lib.parseUintB at this
          split at this
          · cases this
          · exact parse_le d 0 (by omega) this
        have hwu : IntKind.wrap .i64 (u : Int) = (u : Int) := wrap_i64 (by omega) (by omega)
        rw [hwu]
        refine Join.mk fun K1 hK1 => ?_
        refine ⟨trivial, PIf.no rfl ?_⟩
        refine file_ok (E.ext x1) hu32 hnm fun h5 x5 => ⟨_, rfl, hK1 _ _ ?_⟩
        have x05 := x1.trans x5
        refine PIf.intro (fun q => ?_) (fun q => ?_)
        · have q : fnB nm u ≠ s := by
            intro e
            have : sEq (fnB nm u) s = true := by rw [sEq_iff]; exact decide_eq_true e
            dsimp only at q
            rw [this] at q; cases q
          refine none_ok h5 x05 fun k _ hk8 e => q ?_
          have h1 : bl s = bl nm ++ pad8 k := by rw [e, fnB_bl]
          rw [← hd] at h1
          have h2 : d = pad8 k := List.append_cancel_left h1
          rw [h2, pad8_parse (by omega)] at hu
          have : k = u := by injection hu
          rw [← this]; exact e.symm
        · have q : fnB nm u = s := by
            have q : (!sEq (fnB nm u) s) = false := q
            have q : sEq (fnB nm u) s = true := by simpa using q
            rw [sEq_iff] at q
            exact of_decide_eq_true q
          have h1 : bl s = bl nm ++ pad8 u := by rw [← q, fnB_bl]
          rw [← hd] at h1
          have h2 : d = pad8 u := List.append_cancel_left h1
          have hu8 : u ≤ 99999999 := pad8_small (by rw [← h2]; exact h8)
          by_cases hu0 : u = 0
          · subst hu0
            refine none_ok h5 x05 fun k hk1 _ e => ?_
            have := fnB_inj (e.symm.trans q.symm)
            omega
          · exact H h5 u x05 (fun h => absurd h hu0) fun _ => ⟨hu8, q.symm⟩
      · rw [hbl] at hu
        refine ⟨trivial, PIf.yes rfl (hK1 _ _ (PIf.yes rfl (none_ok h1 x1 fun k _ hk8 e => ?_)))⟩
        have h1 : bl s = bl nm ++ pad8 k := by rw [e, fnB_bl]
        rw [← hd] at h1
        have h2 : d = pad8 k := List.append_cancel_left h1
        exact hu k (by rw [h2]; exact pad8_parse (by omega))
    · refine bad _ (by simp [hsz]; omega) fun k _ hk8 e => h8 ?_
      have h1 : bl s = bl nm ++ pad8 k := by rw [e, fnB_bl]
      rw [← hd] at h1
      rw [List.append_cancel_left h1, pad8_len hk8]
end Go.Lf.G

/-
  Rows: arguments opened (any lists), what is asked behind the call.
-/
set_option maxRecDepth 100000
set_option linter.unusedVariables false
set_option linter.unusedSimpArgs false
namespace Go.Lf.G
open Go Go.ChangeShapes Go.WideShapes Go.ChangeAt Go.RowKit Go.Proofs.YtbbikicpamgbmaaGreatDoor

theorem bulk_one {H : Type} (d : DataW H) : 1 ≤ Rows.uptoBulk d := by
  cases d with
  | lit l => cases l <;> simp [Rows.uptoBulk]
  | nil => simp [Rows.uptoBulk]
  | ptr d => simp [Rows.uptoBulk]
  | slice elems spare => simp [Rows.uptoBulk]
  | agg parts => simp [Rows.uptoBulk]
  | iface t d => simp [Rows.uptoBulk]
  | map entries => simp [Rows.uptoBulk]
  | held h => simp [Rows.uptoBulk]

theorem bulk_len {H : Type} (l : List (DataW H)) : l.length ≤ Rows.uptoBulkAll l := by
  induction l with
  | nil => simp [Rows.uptoBulkAll]
  | cons x r ih => have := bulk_one x; simp only [Rows.uptoBulkAll, List.length_cons]; omega

theorem bulk_append {H : Type} (l r : List (DataW H)) : Rows.uptoBulkAll (l ++ r) = Rows.uptoBulkAll l + Rows.uptoBulkAll r := by
  induction l with
  | nil => simp [Rows.uptoBulkAll]
  | cons x l ih => simp only [List.cons_append, Rows.uptoBulkAll, ih]; omega

theorem stays_all {H : Type} {enc : TypeId × Value → H} {P : Program} (hl : laidOutB P = true) {W W' : World} {sp : Nat → Bool} : ∀ {ts : List TypeId} {vs : List Value} {ds : List (DataW H)} {ps : List MemPlace},
    (ts.all fun t => P.readableRec t && decide (t < P.types.size)) = true → DataW.TrodAll enc P W 0 (fun _ => true) true ts vs ds ps → (∀ p ∈ ps, W.sameAt W' p) → (∀ p ∈ ps, sp p.block = true) → DataW.TrodAll enc P W' 0 sp true ts vs ds ps
  | [], [], [], _, _, h, _, _ => h
  | t :: ts, v :: vs, d :: ds, _, hr, ⟨p, q, h1, h2, e⟩, hs, hsp => by
    simp only [List.all_cons, Bool.and_eq_true, decide_eq_true_eq] at hr
    subst e
    exact ⟨p, q, WideElems.Trod_stays hl hr.1.1 hr.1.2 h1 (fun x hx => hs x (List.mem_append_left _ hx)) (fun x hx => hsp x (List.mem_append_left _ hx)),
      stays_all hl (by simpa using hr.2) h2 (fun x hx => hs x (List.mem_append_right _ hx)) (fun x hx => hsp x (List.mem_append_right _ hx)), rfl⟩

/-- the world of a call, in parts -/
def ambOf (W : World) : Amb := ⟨W.tape, W.os, W.output⟩
theorem ambOf_at (W : World) : (ambOf W).at W.heap W.drawn = W := rfl

theorem row_post {H : Type} {enc : TypeId × Value → H} {P : Program} {f : Func} {s : ChangeSpec} {W : World} {args : Array Value} {ds gs : List (DataW H)} {before : List MemPlace} {tb : TypeId} {h' : Heap} {n' : Nat}
    (hW : DataW.Whole enc P f.params.toList s.vars false W args.toList ds gs before) (hvars : s.vars = []) (hres : (s.fn H (ds ++ gs)).results = [.lit (.bool true)]) (hargs : (s.fn H (ds ++ gs)).args = ds) (hvs : (s.fn H (ds ++ gs)).vars = [])
    (hl : laidOutB P = true) (hp : (f.params.toList.all fun t => P.readableRec t && decide (t < P.types.size)) = true) (hr : f.resultTypes = #[tb]) (hb : P.underlying tb = some .bool) (x : Ext W.heap h') :
    s.post enc P f false true false false W args (.bool true) ((ambOf W).at h' n') := by
  have hlt := fun p (hp : p ∈ before) => hW.lt p hp
  have hsame : ∀ p ∈ before, W.sameAt ((ambOf W).at h' n') p := fun p hp => by
    have hb2 : h'[p.block]? = W.heap[p.block]? := x.get _ (hlt p hp) (fun h => h)
    cases p with
    | cell b off =>
      show hget h' ⟨b, off, none⟩ = hget W.heap ⟨b, off, none⟩
      exact hget_blk hb2
    | map b => exact hb2
  obtain ⟨p, q, hA, hV, rfl, hz, hn⟩ := id hW
  rw [hvars] at hV
  have hgs : gs = [] ∧ q = [] := by
    cases gs with
    | nil => exact ⟨rfl, hV⟩
    | cons _ _ => exact hV.elim
  obtain ⟨rfl, rfl⟩ := hgs
  refine ⟨ds, [], p ++ [], [], p, [], hW, ?_, ?_, ?_, ?_, fun h => by cases h⟩
  · rw [hres, hr]
    exact ⟨[], [], ⟨1, by simp [DataW.trod, Value.cells, hb]⟩, rfl, rfl⟩
  · rw [hargs]
    exact stays_all hl hp hA (fun y hy => hsame y (List.mem_append_left _ hy)) (fun y hy => by simpa using hlt y (List.mem_append_left _ hy))
  · rw [hvars, hvs]; rfl
  · refine ⟨rfl, rfl, fun i hi => ?_⟩
    have e : ((ambOf W).at h' n').heap[i]? = W.heap[i]? := x.get i hi (fun h => h)
    rw [e]
    cases h1 : W.heap[i]? with
    | none => trivial
    | some o =>
      cases o with
      | cells c t fr => exact ⟨rfl, rfl, rfl, fun _ _ => rfl⟩
      | map es clock => exact .inr ⟨rfl, rfl⟩
      | _ => rfl


theorem laid : laidOutB P = true := by kernel_rfl

section
variable {H : Type} {enc : TypeId × Value → H} {w : World} {base : Nat} {spare : Nat → Bool} {held : Bool}

/-- a list's elements opened, each beside its datum -/
theorem open_sl {α : Type} {E : Enc α} {Q : α → DataW H → Prop} {tS t : TypeId} (hT : P.underlying tS = some (.slice t)) (hc : P.cellsOf t = E.w)
    (hel : ∀ n cs x, DataW.trod enc P w base spare held n t cs = some x → ∃ y : α, cs = E.enc y ∧ Q y x.1) {n : Nat} {p : Option Addr} {len cap : Nat} {x : DataW H × List MemPlace} (h : DataW.trod enc P w base spare held n tS [.slice p len cap] = some x) :
    ∃ (l : List α) (ds : List (DataW H)), View E w.heap ⟨p, len, cap⟩ l ∧ l.length = ds.length ∧ (∀ (i : Nat) y d, l[i]? = some y → ds[i]? = some d → Q y d) ∧ Rows.uptoBulkAll ds + 1 ≤ Rows.uptoBulk x.1 := by
  rcases Deep.open_slice hT h with ⟨h0, rfl⟩ | ⟨a, len', cap', m, n', D, Pl, h0, _, hl, _, hm, rfl, hx⟩
  · simp at h0
    obtain ⟨rfl, rfl, rfl⟩ := h0
    exact ⟨[], [], View.nil, rfl, by simp, by simp [Rows.uptoBulk, Rows.uptoBulkAll]⟩
  · simp at h0
    obtain ⟨rfl, rfl, rfl⟩ := h0
    have hlm : len ≤ m := by rw [hm]; split <;> omega
    rw [hc] at hx
    have : ∀ i, i < len → ∃ y : α, Cells w.heap (a.add (i * E.w)) (E.enc y) ∧ Q y (D i) := fun i hi => by
      obtain ⟨cs', h1, h2⟩ := hx i (by omega)
      obtain ⟨y, rfl, hq⟩ := hel _ _ _ h2
      obtain ⟨_, hlen, hcc⟩ := World.cells?_some h1
      refine ⟨y, fun j v hj => ?_, hq⟩
      have hj3 : j < E.w := by rw [← E.len y]; exact (List.getElem?_eq_some_iff.1 hj).1
      have := hcc j hj3
      rw [hj] at this
      exact this
    by_cases hlen : len = 0
    · subst hlen
      refine ⟨[], [], ⟨rfl, hl, fun i y hi => by simp at hi⟩, rfl, by simp, ?_⟩
      simp [Rows.uptoBulk, Rows.uptoBulkAll]
    · obtain ⟨y0, _⟩ := this 0 (by omega)
      have : ∃ f : Nat → α, ∀ i, i < len → Cells w.heap (a.add (i * E.w)) (E.enc (f i)) ∧ Q (f i) (D i) :=
        ⟨fun i => if hi : i < len then Classical.choose (this i hi) else y0, fun i hi => by simp only [dif_pos hi]; exact Classical.choose_spec (this i hi)⟩
      obtain ⟨f, hf⟩ := this
      refine ⟨(List.range len).map f, (List.range len).map D, ⟨by simp, hl, fun i y hi => ?_⟩, by simp, fun i y d h1 h2 => ?_, ?_⟩
      · simp only [List.getElem?_map] at hi
        by_cases hil : i < len
        · simp [hil] at hi
          subst hi
          exact ⟨a, rfl, (hf i hil).1⟩
        · simp [Nat.not_lt.1 hil] at hi
      · simp only [List.getElem?_map] at h1 h2
        by_cases hil : i < len
        · simp [hil] at h1 h2
          subst h1; subst h2
          exact (hf i hil).2
        · simp [Nat.not_lt.1 hil] at h1
      · simp only [Rows.uptoBulk]
        omega
end

/-- a measure of the elements, summed -/
theorem sum_bulk {H α : Type} {f : α → Nat} : ∀ {l : List α} {ds : List (DataW H)}, l.length = ds.length → (∀ (i : Nat) y d, l[i]? = some y → ds[i]? = some d → f y ≤ Rows.uptoBulk d) → (l.map f).sum ≤ Rows.uptoBulkAll ds
  | [], _, _, _ => by simp
  | x :: l, [], h, _ => by simp at h
  | x :: l, d :: ds, h, hq => by
    have h1 := hq 0 x d rfl rfl
    have h2 := sum_bulk (f := f) (l := l) (ds := ds) (by simpa using h) (fun i y d h1 h2 => hq (i + 1) y d (by simpa using h1) (by simpa using h2))
    simp only [List.map_cons, List.sum_cons, Rows.uptoBulkAll]
    omega
theorem mem_bulk {H α : Type} {Q : α → DataW H → Prop} {l : List α} {ds : List (DataW H)} (hl : l.length = ds.length) (hq : ∀ (i : Nat) y d, l[i]? = some y → ds[i]? = some d → Q y d) {y : α} (hy : y ∈ l) : ∃ d ∈ ds, Q y d := by
  obtain ⟨i, hi, rfl⟩ := List.getElem_of_mem hy
  have hi2 : i < ds.length := by omega
  exact ⟨ds[i], List.getElem_mem hi2, hq i _ _ (List.getElem?_eq_getElem hi) (List.getElem?_eq_getElem hi2)⟩

theorem P_int : P.underlying t_int = some (.int .i64) := by kernel_rfl
theorem P_bool : P.underlying t_bool = some .bool := by kernel_rfl
theorem P_str' : P.underlying t_string = some .string := by kernel_rfl
theorem P_slstr : P.underlying t_sl_string = some (.slice t_string) := by kernel_rfl
theorem P_slint : P.underlying t_sl_int = some (.slice t_int) := by kernel_rfl
theorem P_cs : P.cellsOf t_string = 1 := by kernel_rfl
theorem P_ci : P.cellsOf t_int = 1 := by kernel_rfl

theorem wf_i64 {n : Int} (h : (Lit.int .i64 n).wf = true) : -9223372036854775808 ≤ n ∧ n ≤ 9223372036854775807 := by
  simp [Lit.wf, IntKind.min, IntKind.max, IntKind.bits, IntKind.signed] at h
  omega

section
variable {H : Type} {enc : TypeId × Value → H} {w : World} {base : Nat} {spare : Nat → Bool} {held : Bool}
theorem open_strs {n : Nat} {p : Option Addr} {len cap : Nat} {x : DataW H × List MemPlace} (h : DataW.trod enc P w base spare held n t_sl_string [.slice p len cap] = some x) :
    ∃ l : List ByteArray, View StrE w.heap ⟨p, len, cap⟩ l ∧ (l.map (·.size + 1)).sum + 1 ≤ Rows.uptoBulk x.1 := by
  obtain ⟨l, ds, V, hl, hq, hb⟩ := open_sl (E := StrE) (Q := fun y d => y.size + 1 ≤ Rows.uptoBulk d) P_slstr P_cs (fun n cs x hx => by
    obtain ⟨s, h1, h2, h3⟩ := DataW.trod_string P_str' hx
    refine ⟨s, h1, ?_⟩
    rw [h2]
    have : s.data.toList.length = s.size := by rw [Array.length_toList]; rfl
    simp only [Rows.uptoBulk]
    omega) h
  have := sum_bulk hl hq
  exact ⟨l, V, by omega⟩
theorem open_ints {n : Nat} {p : Option Addr} {len cap : Nat} {x : DataW H × List MemPlace} (h : DataW.trod enc P w base spare held n t_sl_int [.slice p len cap] = some x) :
    ∃ l : List Int, View IntE w.heap ⟨p, len, cap⟩ l ∧ l.length + 1 ≤ Rows.uptoBulk x.1 ∧ ∀ n ∈ l, -9223372036854775808 ≤ n ∧ n ≤ 9223372036854775807 := by
  obtain ⟨l, ds, V, hl, hq, hb⟩ := open_sl (E := IntE) (Q := fun y d => -9223372036854775808 ≤ y ∧ y ≤ 9223372036854775807) P_slint P_ci (fun n cs x hx => by
    obtain ⟨s, h1, h2, h3⟩ := DataW.trod_int P_int hx
    exact ⟨s, h1, wf_i64 h3⟩) h
  have := bulk_len ds
  exact ⟨l, V, by omega, fun n hn => by obtain ⟨_, _, h⟩ := mem_bulk hl hq hn; exact h⟩
end

theorem arg_strs {H : Type} {enc : TypeId × Value → H} {W : World} {base : Nat} {v : Value} {d : DataW H} {ps : List MemPlace} (hv : Value.okWide P W .any base t_sl_string v) (h : DataW.Trod enc P W 0 (fun _ => true) true t_sl_string v d ps) :
    ∃ (s : Sl) (l : List ByteArray), v = .slice s.p s.len s.cap ∧ View StrE W.heap s l ∧ (l.map (·.size + 1)).sum + 1 ≤ Rows.uptoBulk d := by
  obtain ⟨p, len, cap, rfl⟩ := okWide_slice P_slstr hv
  obtain ⟨n, hn⟩ := h
  obtain ⟨l, h1, h2⟩ := open_strs hn
  exact ⟨⟨p, len, cap⟩, l, rfl, h1, h2⟩
theorem arg_ints {H : Type} {enc : TypeId × Value → H} {W : World} {base : Nat} {v : Value} {d : DataW H} {ps : List MemPlace} (hv : Value.okWide P W .any base t_sl_int v) (h : DataW.Trod enc P W 0 (fun _ => true) true t_sl_int v d ps) :
    ∃ (s : Sl) (l : List Int), v = .slice s.p s.len s.cap ∧ View IntE W.heap s l ∧ l.length + 1 ≤ Rows.uptoBulk d ∧ ∀ n ∈ l, -9223372036854775808 ≤ n ∧ n ≤ 9223372036854775807 := by
  obtain ⟨p, len, cap, rfl⟩ := okWide_slice P_slint hv
  obtain ⟨n, hn⟩ := h
  obtain ⟨l, h1, h2⟩ := open_ints hn
  exact ⟨⟨p, len, cap⟩, l, rfl, h1, h2⟩
theorem arg_str {H : Type} {enc : TypeId × Value → H} {W : World} {base : Nat} {v : Value} {d : DataW H} {ps : List MemPlace} (hv : Value.okWide P W .any base t_string v) (h : DataW.Trod enc P W 0 (fun _ => true) true t_string v d ps) :
    ∃ s : ByteArray, v = .string s ∧ s.size + 1 ≤ Rows.uptoBulk d := by
  obtain ⟨s, rfl⟩ := okWide_string P_str' hv
  obtain ⟨n, hn⟩ := h
  obtain ⟨s', h1, h2, h3⟩ := DataW.trod_string P_str' hn
  simp [Value.cells] at h1
  subst h1
  refine ⟨s, rfl, ?_⟩
  rw [show d = _ from congrArg Prod.fst h2]
  have : s.data.toList.length = s.size := by rw [Array.length_toList]; rfl
  simp only [Rows.uptoBulk]; omega
end Go.Lf.G

/-
  The contracts of maps.Keys, slices.Sorted and slices.Sort at this translation (printed by the kit's lay-plain.mjs).
-/
namespace Go.Proofs
open Go.Shelf
def Tryz.keysA_ren : Go.Shelf.Ren := ⟨fun | 7 => 24 | 10 => 40 | n => n, fun | 23 => 48 | 26 => 9 | 3 => 62 | 28 => 60 | 0 => 0 | 27 => 59 | 33 => 65 | 4 => 4 | n => n, fun | n => n⟩
theorem Tryz.keysA : Go.Proofs.SlLaysZ.n7 Tryz.prog Tryz.keysA_ren := {
  mixed := by kernel_rfl
  f7 := ⟨Tryz.f24.name, by decide, Tryz.func24.trans (congrArg some (by kernel_rfl))⟩
  f10 := ⟨Tryz.f40.name, by decide, Tryz.func40.trans (congrArg some (by kernel_rfl))⟩
  t0 := Tryz.underlying0
  a0 := Tryz.isAgg0
  z0 := Tryz.sizeOf0
  v0 := Tryz.zeroValue0
  t4 := Tryz.underlying4
  a4 := Tryz.isAgg4
  z4 := Tryz.sizeOf4
  v4 := Tryz.zeroValue4
  t23 := Tryz.underlying48
  a23 := Tryz.isAgg48
  z23 := Tryz.sizeOf48
  v23 := Tryz.zeroValue48
  t26 := Tryz.underlying9
  a26 := Tryz.isAgg9
  z26 := Tryz.sizeOf9
  v26 := Tryz.zeroValue9
  t27 := Tryz.underlying59
  a27 := Tryz.isAgg59
  z27 := Tryz.sizeOf59
  v27 := Tryz.zeroValue59
  t28 := Tryz.underlying60
  a28 := Tryz.isAgg60
  z28 := Tryz.sizeOf60
  v28 := Tryz.zeroValue60
  t33 := Tryz.underlying65
  a33 := Tryz.isAgg65
  z33 := Tryz.sizeOf65
  v33 := Tryz.zeroValue65 }
def Tryz.sortedA_ren : Go.Shelf.Ren := ⟨fun | 6 => 23 | 8 => 38 | 9 => 39 | 11 => 53 | 13 => 44 | 12 => 54 | 23 => 67 | 24 => 68 | 14 => 75 | 15 => 76 | 16 => 77 | 17 => 78 | 18 => 79 | 19 => 80 | 20 => 81 | 21 => 82 | 22 => 83 | 25 => 102 | 26 => 91 | 27 => 92 | 28 => 103 | 29 => 104 | 30 => 105 | 31 => 113 | n => n, fun | 26 => 9 | 28 => 60 | 24 => 27 | 0 => 0 | 3 => 3 | 37 => 87 | 48 => 76 | 50 => 74 | 4 => 4 | 40 => 106 | 39 => 105 | 45 => 111 | 5 => 5 | 9 => 9 | 51 => 131 | 55 => 135 | 57 => 151 | 58 => 152 | 33 => 65 | n => n, fun | n => n⟩
theorem Tryz.sortedA : Go.Proofs.SlLaysZ.n6 Tryz.prog Tryz.sortedA_ren := {
  mixed := by kernel_rfl
  f6 := ⟨Tryz.f23.name, by decide, Tryz.func23.trans (congrArg some (by kernel_rfl))⟩
  f8 := ⟨Tryz.f38.name, by decide, Tryz.func38.trans (congrArg some (by kernel_rfl))⟩
  f11 := ⟨Tryz.f53.name, by decide, Tryz.func53.trans (congrArg some (by kernel_rfl))⟩
  t0 := Tryz.underlying0
  a0 := Tryz.isAgg0
  z0 := Tryz.sizeOf0
  v0 := Tryz.zeroValue0
  t24 := Tryz.underlying27
  a24 := Tryz.isAgg27
  z24 := Tryz.sizeOf27
  v24 := Tryz.zeroValue27
  t26 := Tryz.underlying9
  a26 := Tryz.isAgg9
  z26 := Tryz.sizeOf9
  v26 := Tryz.zeroValue9
  t28 := Tryz.underlying60
  a28 := Tryz.isAgg60
  z28 := Tryz.sizeOf60
  v28 := Tryz.zeroValue60
  i26 := by kernel_rfl }
def Tryz.sortA_ren : Go.Shelf.Ren := ⟨fun | 6 => 39 | 8 => 44 | 9 => 54 | 19 => 67 | 20 => 68 | 21 => 75 | 22 => 76 | 23 => 77 | 24 => 78 | 25 => 79 | 26 => 80 | 27 => 81 | 28 => 82 | 29 => 83 | 36 => 102 | 31 => 91 | 32 => 92 | 37 => 103 | 38 => 104 | 39 => 105 | 41 => 113 | n => n, fun | 27 => 27 | 29 => 9 | 3 => 3 | 32 => 87 | 26 => 27 | 0 => 0 | 44 => 76 | 46 => 74 | 4 => 4 | 36 => 106 | 35 => 105 | 41 => 111 | 5 => 5 | 9 => 9 | 53 => 131 | 57 => 135 | 63 => 151 | 64 => 152 | n => n, fun | n => n⟩
theorem Tryz.sortA : Go.Proofs.SlLaysM.n6 Tryz.prog Tryz.sortA_ren := {
  mixed := by kernel_rfl
  f6 := ⟨Tryz.f39.name, by decide, Tryz.func39.trans (congrArg some (by kernel_rfl))⟩
  f8 := Tryz.func44.trans (congrArg some (by kernel_rfl))
  f9 := ⟨Tryz.f54.name, by decide, Tryz.func54.trans (congrArg some (by kernel_rfl))⟩
  f19 := Tryz.func67.trans (congrArg some (by kernel_rfl))
  f20 := Tryz.func68.trans (congrArg some (by kernel_rfl))
  f21 := ⟨Tryz.f75.name, by decide, Tryz.func75.trans (congrArg some (by kernel_rfl))⟩
  f22 := ⟨Tryz.f76.name, by decide, Tryz.func76.trans (congrArg some (by kernel_rfl))⟩
  f23 := ⟨Tryz.f77.name, by decide, Tryz.func77.trans (congrArg some (by kernel_rfl))⟩
  f24 := ⟨Tryz.f78.name, by decide, Tryz.func78.trans (congrArg some (by kernel_rfl))⟩
  f25 := ⟨Tryz.f79.name, by decide, Tryz.func79.trans (congrArg some (by kernel_rfl))⟩
  f26 := ⟨Tryz.f80.name, by decide, Tryz.func80.trans (congrArg some (by kernel_rfl))⟩
  f27 := ⟨Tryz.f81.name, by decide, Tryz.func81.trans (congrArg some (by kernel_rfl))⟩
  f28 := ⟨Tryz.f82.name, by decide, Tryz.func82.trans (congrArg some (by kernel_rfl))⟩
  f29 := ⟨Tryz.f83.name, by decide, Tryz.func83.trans (congrArg some (by kernel_rfl))⟩
  f31 := Tryz.func91.trans (congrArg some (by kernel_rfl))
  f32 := Tryz.func92.trans (congrArg some (by kernel_rfl))
  f36 := ⟨Tryz.f102.name, by decide, Tryz.func102.trans (congrArg some (by kernel_rfl))⟩
  f37 := ⟨Tryz.f103.name, by decide, Tryz.func103.trans (congrArg some (by kernel_rfl))⟩
  f38 := ⟨Tryz.f104.name, by decide, Tryz.func104.trans (congrArg some (by kernel_rfl))⟩
  f39 := ⟨Tryz.f105.name, by decide, Tryz.func105.trans (congrArg some (by kernel_rfl))⟩
  f41 := ⟨Tryz.f113.name, by decide, Tryz.func113.trans (congrArg some (by kernel_rfl))⟩
  t0 := Tryz.underlying0
  a0 := Tryz.isAgg0
  z0 := Tryz.sizeOf0
  v0 := Tryz.zeroValue0
  t3 := Tryz.underlying3
  a3 := Tryz.isAgg3
  z3 := Tryz.sizeOf3
  v3 := Tryz.zeroValue3
  t4 := Tryz.underlying4
  a4 := Tryz.isAgg4
  z4 := Tryz.sizeOf4
  v4 := Tryz.zeroValue4
  t5 := Tryz.underlying5
  a5 := Tryz.isAgg5
  z5 := Tryz.sizeOf5
  v5 := Tryz.zeroValue5
  t9 := Tryz.underlying9
  a9 := Tryz.isAgg9
  z9 := Tryz.sizeOf9
  v9 := Tryz.zeroValue9
  t26 := Tryz.underlying27
  a26 := Tryz.isAgg27
  z26 := Tryz.sizeOf27
  v26 := Tryz.zeroValue27
  t27 := Tryz.underlying27
  a27 := Tryz.isAgg27
  z27 := Tryz.sizeOf27
  v27 := Tryz.zeroValue27
  t29 := Tryz.underlying9
  a29 := Tryz.isAgg9
  z29 := Tryz.sizeOf9
  v29 := Tryz.zeroValue9
  t32 := Tryz.underlying87
  a32 := Tryz.isAgg87
  z32 := Tryz.sizeOf87
  v32 := Tryz.zeroValue87
  t35 := Tryz.underlying105
  a35 := Tryz.isAgg105
  z35 := Tryz.sizeOf105
  v35 := Tryz.zeroValue105
  t36 := Tryz.underlying106
  a36 := Tryz.isAgg106
  z36 := Tryz.sizeOf106
  v36 := Tryz.zeroValue106
  t41 := Tryz.underlying111
  a41 := Tryz.isAgg111
  z41 := Tryz.sizeOf111
  v41 := Tryz.zeroValue111
  t44 := Tryz.underlying76
  a44 := Tryz.isAgg76
  z44 := Tryz.sizeOf76
  v44 := Tryz.zeroValue76
  t46 := Tryz.underlying74
  a46 := Tryz.isAgg74
  z46 := Tryz.sizeOf74
  v46 := Tryz.zeroValue74
  t53 := Tryz.underlying131
  a53 := Tryz.isAgg131
  z53 := Tryz.sizeOf131
  v53 := Tryz.zeroValue131
  t57 := Tryz.underlying135
  a57 := Tryz.isAgg135
  z57 := Tryz.sizeOf135
  v57 := Tryz.zeroValue135
  t63 := Tryz.underlying151
  a63 := Tryz.isAgg151
  z63 := Tryz.sizeOf151
  v63 := Tryz.zeroValue151
  t64 := Tryz.underlying152
  a64 := Tryz.isAgg152
  z64 := Tryz.sizeOf152
  v64 := Tryz.zeroValue152 }
def Tryz.sortI_ren : Go.Shelf.Ren := ⟨fun | 5 => 31 | 8 => 44 | 7 => 43 | 19 => 67 | 20 => 68 | 10 => 58 | 11 => 59 | 12 => 60 | 13 => 61 | 14 => 62 | 15 => 63 | 16 => 64 | 17 => 65 | 18 => 66 | 30 => 90 | 31 => 91 | 32 => 92 | 33 => 93 | 34 => 94 | 35 => 95 | 40 => 108 | n => n, fun | 23 => 23 | 25 => 3 | 3 => 3 | 32 => 87 | 22 => 23 | 0 => 0 | 44 => 76 | 46 => 74 | 4 => 4 | 36 => 106 | 35 => 105 | 41 => 111 | 5 => 5 | 9 => 9 | 53 => 131 | 57 => 135 | 63 => 151 | 64 => 152 | n => n, fun | n => n⟩
theorem Tryz.sortI : Go.Proofs.SlLaysM.n5 Tryz.prog Tryz.sortI_ren := {
  mixed := by kernel_rfl
  f5 := ⟨Tryz.f31.name, by decide, Tryz.func31.trans (congrArg some (by kernel_rfl))⟩
  f7 := ⟨Tryz.f43.name, by decide, Tryz.func43.trans (congrArg some (by kernel_rfl))⟩
  f8 := Tryz.func44.trans (congrArg some (by kernel_rfl))
  f10 := ⟨Tryz.f58.name, by decide, Tryz.func58.trans (congrArg some (by kernel_rfl))⟩
  f11 := ⟨Tryz.f59.name, by decide, Tryz.func59.trans (congrArg some (by kernel_rfl))⟩
  f12 := ⟨Tryz.f60.name, by decide, Tryz.func60.trans (congrArg some (by kernel_rfl))⟩
  f13 := ⟨Tryz.f61.name, by decide, Tryz.func61.trans (congrArg some (by kernel_rfl))⟩
  f14 := ⟨Tryz.f62.name, by decide, Tryz.func62.trans (congrArg some (by kernel_rfl))⟩
  f15 := ⟨Tryz.f63.name, by decide, Tryz.func63.trans (congrArg some (by kernel_rfl))⟩
  f16 := ⟨Tryz.f64.name, by decide, Tryz.func64.trans (congrArg some (by kernel_rfl))⟩
  f17 := ⟨Tryz.f65.name, by decide, Tryz.func65.trans (congrArg some (by kernel_rfl))⟩
  f18 := ⟨Tryz.f66.name, by decide, Tryz.func66.trans (congrArg some (by kernel_rfl))⟩
  f19 := Tryz.func67.trans (congrArg some (by kernel_rfl))
  f20 := Tryz.func68.trans (congrArg some (by kernel_rfl))
  f30 := ⟨Tryz.f90.name, by decide, Tryz.func90.trans (congrArg some (by kernel_rfl))⟩
  f31 := Tryz.func91.trans (congrArg some (by kernel_rfl))
  f32 := Tryz.func92.trans (congrArg some (by kernel_rfl))
  f33 := ⟨Tryz.f93.name, by decide, Tryz.func93.trans (congrArg some (by kernel_rfl))⟩
  f34 := ⟨Tryz.f94.name, by decide, Tryz.func94.trans (congrArg some (by kernel_rfl))⟩
  f35 := ⟨Tryz.f95.name, by decide, Tryz.func95.trans (congrArg some (by kernel_rfl))⟩
  f40 := ⟨Tryz.f108.name, by decide, Tryz.func108.trans (congrArg some (by kernel_rfl))⟩
  t0 := Tryz.underlying0
  a0 := Tryz.isAgg0
  z0 := Tryz.sizeOf0
  v0 := Tryz.zeroValue0
  t3 := Tryz.underlying3
  a3 := Tryz.isAgg3
  z3 := Tryz.sizeOf3
  v3 := Tryz.zeroValue3
  t4 := Tryz.underlying4
  a4 := Tryz.isAgg4
  z4 := Tryz.sizeOf4
  v4 := Tryz.zeroValue4
  t5 := Tryz.underlying5
  a5 := Tryz.isAgg5
  z5 := Tryz.sizeOf5
  v5 := Tryz.zeroValue5
  t9 := Tryz.underlying9
  a9 := Tryz.isAgg9
  z9 := Tryz.sizeOf9
  v9 := Tryz.zeroValue9
  t22 := Tryz.underlying23
  a22 := Tryz.isAgg23
  z22 := Tryz.sizeOf23
  v22 := Tryz.zeroValue23
  t23 := Tryz.underlying23
  a23 := Tryz.isAgg23
  z23 := Tryz.sizeOf23
  v23 := Tryz.zeroValue23
  t25 := Tryz.underlying3
  a25 := Tryz.isAgg3
  z25 := Tryz.sizeOf3
  v25 := Tryz.zeroValue3
  t32 := Tryz.underlying87
  a32 := Tryz.isAgg87
  z32 := Tryz.sizeOf87
  v32 := Tryz.zeroValue87
  t35 := Tryz.underlying105
  a35 := Tryz.isAgg105
  z35 := Tryz.sizeOf105
  v35 := Tryz.zeroValue105
  t36 := Tryz.underlying106
  a36 := Tryz.isAgg106
  z36 := Tryz.sizeOf106
  v36 := Tryz.zeroValue106
  t41 := Tryz.underlying111
  a41 := Tryz.isAgg111
  z41 := Tryz.sizeOf111
  v41 := Tryz.zeroValue111
  t44 := Tryz.underlying76
  a44 := Tryz.isAgg76
  z44 := Tryz.sizeOf76
  v44 := Tryz.zeroValue76
  t46 := Tryz.underlying74
  a46 := Tryz.isAgg74
  z46 := Tryz.sizeOf74
  v46 := Tryz.zeroValue74
  t53 := Tryz.underlying131
  a53 := Tryz.isAgg131
  z53 := Tryz.sizeOf131
  v53 := Tryz.zeroValue131
  t57 := Tryz.underlying135
  a57 := Tryz.isAgg135
  z57 := Tryz.sizeOf135
  v57 := Tryz.zeroValue135
  t63 := Tryz.underlying151
  a63 := Tryz.isAgg151
  z63 := Tryz.sizeOf151
  v63 := Tryz.zeroValue151
  t64 := Tryz.underlying152
  a64 := Tryz.isAgg152
  z64 := Tryz.sizeOf152
  v64 := Tryz.zeroValue152 }
end Go.Proofs

