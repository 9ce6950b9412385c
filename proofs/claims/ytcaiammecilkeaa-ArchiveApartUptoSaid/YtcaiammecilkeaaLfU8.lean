/-
  Plain law, no program in sight: numbers as bytes, seven bits each; readers of bytes; check sums; frames.
-/
import Derived.Test.YtcaiammecilkeaaLfU7
set_option maxRecDepth 100000
set_option linter.unusedVariables false
set_option linter.unusedSimpArgs false
namespace Go.Lf
open Go

/-- bytes as a string -/
def strL (l : List UInt8) : ByteArray := ⟨l.toArray⟩
theorem strL_list (l : List UInt8) : (strL l).data.toList = l := by simp [strL]
theorem strL_of (s : ByteArray) : strL s.data.toList = s := by simp [strL]
theorem strL_size (l : List UInt8) : (strL l).size = l.length := by simp [strL, ByteArray.size]
theorem strL_inj {a b : List UInt8} : strL a = strL b ↔ a = b := ⟨fun h => by simpa [strL] using congrArg (fun s : ByteArray => s.data.toList) h, fun h => by rw [h]⟩

def byteN (n : Nat) : UInt8 := UInt8.ofNat n
theorem byteN_nat {n : Nat} (h : n < 256) : (byteN n).toNat = n := by simp [byteN, UInt8.toNat_ofNat']; omega
theorem byteN_of (c : UInt8) : byteN c.toNat = c := by simp [byteN]

/-- a number's bytes -/
def putV (n : Nat) : List UInt8 := if n < 128 then [byteN n] else byteN (n % 128 + 128) :: putV (n / 128)
termination_by n
decreasing_by omega

theorem putV_small {n : Nat} (h : n < 128) : putV n = [byteN n] := by rw [putV, if_pos h]
theorem putV_big {n : Nat} (h : ¬ n < 128) : putV n = byteN (n % 128 + 128) :: putV (n / 128) := by rw [putV, if_neg h]

/-- the number at the head, from the i-th byte on, and what stands behind it -/
def getV : Nat → Nat → List UInt8 → Option (Nat × List UInt8)
  | _, _, [] => none
  | i, a, c :: t =>
    if 10 ≤ i ∨ (i = 9 ∧ 1 < c.toNat) ∨ (0 < i ∧ c.toNat = 0) then none
    else if c.toNat < 128 then some (a + c.toNat * 128 ^ i, t) else getV (i + 1) (a + c.toNat % 128 * 128 ^ i) t

theorem pow128_le {i j : Nat} (h : i ≤ j) : 128 ^ i ≤ 128 ^ j := Nat.pow_le_pow_right (by decide) h

theorem get_put (t : List UInt8) : ∀ (n i a : Nat), n * 128 ^ i < 18446744073709551616 → (i = 0 ∨ 0 < n) → getV i a (putV n ++ t) = some (a + n * 128 ^ i, t) := by
  intro n
  induction n using Nat.strongRecOn with
  | ind n ih =>
    intro i a hb h0
    have hp : 0 < 128 ^ i := Nat.pos_of_ne_zero (Nat.pos_iff_ne_zero.1 (Nat.pow_pos (by decide)))
    by_cases hn : n < 128
    · rw [putV_small hn]
      simp only [List.cons_append, List.nil_append, getV, byteN_nat (show n < 256 by omega)]
      rw [if_neg, if_pos hn]
      rintro (h | ⟨h, h1⟩ | ⟨h, h1⟩)
      · have h2 := pow128_le h
        have h3 : 1 * 128 ^ i ≤ n * 128 ^ i := Nat.mul_le_mul_right _ (by omega)
        have h4 : (128 : Nat) ^ 10 = 1180591620717411303424 := by decide
        omega
      · subst h
        have h4 : (128 : Nat) ^ 9 = 9223372036854775808 := by decide
        rw [h4] at hb
        omega
      · omega
    · rw [putV_big hn]
      have hd : n / 128 < n := by omega
      simp only [List.cons_append, getV, byteN_nat (show n % 128 + 128 < 256 by omega)]
      rw [if_neg, if_neg (by omega), ih (n / 128) hd]
      · have e1 : (n % 128 + 128) % 128 = n % 128 := by omega
        rw [e1, Nat.pow_succ, Nat.add_assoc, show n % 128 * 128 ^ i + n / 128 * (128 ^ i * 128) = (n % 128 + 128 * (n / 128)) * 128 ^ i by
          rw [Nat.add_mul, Nat.mul_comm (128 ^ i) 128, ← Nat.mul_assoc, Nat.mul_comm (n / 128) 128], Nat.mod_add_div]
      · have h2 : n / 128 * 128 ≤ n := Nat.div_mul_le_self _ _
        have h3 : n / 128 * 128 * 128 ^ i ≤ n * 128 ^ i := Nat.mul_le_mul_right _ h2
        rw [Nat.pow_succ, Nat.mul_comm (128 ^ i) 128, ← Nat.mul_assoc]
        omega
      · omega
      · rintro (h | ⟨h, h1⟩ | ⟨h, h1⟩)
        · have h2 := pow128_le h
          have h3 : 128 * 128 ^ i ≤ n * 128 ^ i := Nat.mul_le_mul_right _ (by omega)
          have h4 : (128 : Nat) ^ 10 = 1180591620717411303424 := by decide
          omega
        · subst h
          have h4 : (128 : Nat) ^ 9 = 9223372036854775808 := by decide
          rw [h4] at hb
          omega
        · omega

/-- what is got is no longer, and its bytes are the number's -/
theorem getV_put : ∀ (l : List UInt8) (i a n : Nat) (t : List UInt8), getV i a l = some (n, t) → ∃ m, n = a + m * 128 ^ i ∧ l = putV m ++ t ∧ m * 128 ^ i < 18446744073709551616 ∧ (i = 0 ∨ 0 < m)
  | [], i, a, n, t, h => by simp [getV] at h
  | c :: l, i, a, n, t, h => by
    simp only [getV] at h
    split at h
    · cases h
    · rename_i hc
      have hc256 : c.toNat < 256 := c.toNat_lt
      split at h
      · rename_i h128
        obtain ⟨rfl, rfl⟩ := h
        refine ⟨c.toNat, rfl, by rw [putV_small h128, byteN_of]; rfl, ?_, by omega⟩
        have hi : i ≤ 9 := by omega
        by_cases h9 : i = 9
        · subst h9
          have h4 : (128 : Nat) ^ 9 = 9223372036854775808 := by decide
          rw [h4]; omega
        · have h2 := pow128_le (show i ≤ 8 by omega)
          have h4 : (128 : Nat) ^ 8 = 72057594037927936 := by decide
          have h3 : c.toNat * 128 ^ i ≤ 127 * 128 ^ i := Nat.mul_le_mul_right _ (by omega)
          omega
      · rename_i h128
        obtain ⟨m, e, rfl, hb, hm⟩ := getV_put l (i + 1) _ n t h
        have hm0 : 0 < m := by omega
        refine ⟨c.toNat % 128 + 128 * m, ?_, ?_, ?_, by omega⟩
        · rw [e, Nat.pow_succ, Nat.add_mul, Nat.add_assoc, Nat.mul_comm (128 ^ i) 128, ← Nat.mul_assoc, Nat.mul_comm m 128]
        · rw [putV_big (n := c.toNat % 128 + 128 * m) (by omega), show (c.toNat % 128 + 128 * m) % 128 + 128 = c.toNat by omega, show (c.toNat % 128 + 128 * m) / 128 = m by omega, byteN_of]; rfl
        · rw [Nat.pow_succ, Nat.mul_comm (128 ^ i) 128, ← Nat.mul_assoc] at hb
          have h128p : (18446744073709551616 : Nat) = 144115188075855872 * 128 := by decide
          have hi8 : i ≤ 8 := by
            refine Nat.le_of_not_lt fun hh => ?_
            have h2 := pow128_le (show 9 ≤ i from hh)
            have h4 : (128 : Nat) ^ 9 = 9223372036854775808 := by decide
            have h3 : 1 * 128 * 128 ^ i ≤ m * 128 * 128 ^ i := Nat.mul_le_mul_right _ (Nat.mul_le_mul_right _ hm0)
            omega
          have e2 : (18446744073709551616 : Nat) = 128 ^ (i + 1) * (18446744073709551616 / 128 ^ (i + 1)) := by
            have : i = 0 ∨ i = 1 ∨ i = 2 ∨ i = 3 ∨ i = 4 ∨ i = 5 ∨ i = 6 ∨ i = 7 ∨ i = 8 := by omega
            rcases this with rfl | rfl | rfl | rfl | rfl | rfl | rfl | rfl | rfl <;> decide
          have hp : 0 < 128 ^ i := Nat.pos_of_ne_zero (Nat.pos_iff_ne_zero.1 (Nat.pow_pos (by decide)))
          have hlt : m < 18446744073709551616 / 128 ^ (i + 1) := by
            refine Nat.lt_of_mul_lt_mul_left (a := 128 ^ (i + 1)) ?_
            rw [← e2, Nat.pow_succ, Nat.mul_comm, Nat.mul_comm (128 ^ i) 128, ← Nat.mul_assoc]
            exact hb
          have h5 : 128 ^ (i + 1) * (m + 1) ≤ 128 ^ (i + 1) * (18446744073709551616 / 128 ^ (i + 1)) := Nat.mul_le_mul_left _ hlt
          rw [← e2, Nat.pow_succ] at h5
          have h6 : (c.toNat % 128 + 128 * m) * 128 ^ i < 128 * (m + 1) * 128 ^ i := Nat.mul_lt_mul_of_pos_right (by omega) hp
          have h7 : 128 * (m + 1) * 128 ^ i = 128 ^ i * 128 * (m + 1) := by rw [Nat.mul_comm, ← Nat.mul_assoc]
          omega

theorem putV_shape : ∀ n : Nat, ∃ d x, putV n = d ++ [x] ∧ (∀ c ∈ d, 128 ≤ c.toNat) ∧ x.toNat < 128 := by
  intro n
  induction n using Nat.strongRecOn with
  | ind n ih =>
    by_cases hn : n < 128
    · exact ⟨[], byteN n, by rw [putV_small hn]; rfl, by simp, by rw [byteN_nat (by omega)]; exact hn⟩
    · obtain ⟨d, x, e, h1, h2⟩ := ih (n / 128) (by omega)
      refine ⟨byteN (n % 128 + 128) :: d, x, by rw [putV_big hn, e]; rfl, fun c hc => ?_, h2⟩
      rcases List.mem_cons.1 hc with rfl | hc
      · rw [byteN_nat (by omega)]; omega
      · exact h1 c hc
theorem putV_pos (n : Nat) : 0 < (putV n).length := by
  obtain ⟨d, x, e, _⟩ := putV_shape n
  rw [e]; simp
theorem putV_len : ∀ (k n : Nat), n < 128 ^ (k + 1) → (putV n).length ≤ k + 1 := by
  intro k
  induction k with
  | zero => intro n h; rw [putV_small (by simpa using h)]; simp
  | succ k ih =>
    intro n h
    by_cases hn : n < 128
    · rw [putV_small hn]; simp
    · rw [putV_big hn]
      have := ih (n / 128) (by rw [Nat.div_lt_iff_lt_mul (by decide), ← Nat.pow_succ]; exact h)
      simp; omega
theorem putV_len10 {n : Nat} (h : n < 18446744073709551616) : (putV n).length ≤ 10 := by
  refine putV_len 9 n (Nat.lt_of_lt_of_le h ?_)
  decide

/-- the number that bytes would make, checked or not -/
def rawV : List UInt8 → Nat
  | [] => 0
  | c :: t => c.toNat % 128 + 128 * rawV t
theorem rawV_put : ∀ n : Nat, rawV (putV n) = n := by
  intro n
  induction n using Nat.strongRecOn with
  | ind n ih =>
    by_cases hn : n < 128
    · rw [putV_small hn]; simp only [rawV, byteN_nat (show n < 256 by omega)]; omega
    · rw [putV_big hn]
      simp only [rawV, byteN_nat (show n % 128 + 128 < 256 by omega), ih (n / 128) (by omega)]
      omega
theorem rawV_snoc (c : UInt8) : ∀ l : List UInt8, rawV (l ++ [c]) = rawV l + c.toNat % 128 * 128 ^ l.length
  | [] => by simp [rawV]
  | x :: l => by
    simp only [List.cons_append, rawV, rawV_snoc c l, List.length_cons, Nat.pow_succ, Nat.mul_add]
    rw [Nat.add_assoc, Nat.mul_comm (128 ^ l.length) 128, ← Nat.mul_assoc, ← Nat.mul_assoc, Nat.mul_comm 128 (c.toNat % 128)]
theorem rawV_lt : ∀ l : List UInt8, rawV l < 128 ^ l.length
  | [] => by simp [rawV]
  | c :: l => by
    have := rawV_lt l
    simp only [rawV, List.length_cons, Nat.pow_succ]
    omega
theorem getV0 {l : List UInt8} {n : Nat} {t : List UInt8} (h : getV 0 0 l = some (n, t)) : l = putV n ++ t ∧ n < 18446744073709551616 := by
  obtain ⟨m, e, h1, h2, _⟩ := getV_put l 0 0 n t h
  simp at e h2
  subst e
  exact ⟨h1, h2⟩
theorem getV0_put {n : Nat} (h : n < 18446744073709551616) (t : List UInt8) : getV 0 0 (putV n ++ t) = some (n, t) := by
  rw [get_put t n 0 0 (by simpa using h) (.inl rfl)]; simp
theorem putV_inj {n m : Nat} {s t : List UInt8} (hn : n < 18446744073709551616) (hm : m < 18446744073709551616) (h : putV n ++ s = putV m ++ t) : n = m ∧ s = t := by
  have h1 := getV0_put hn s
  rw [h, getV0_put hm t] at h1
  simp at h1
  exact ⟨h1.1.symm, h1.2.symm⟩

/-- the first byte below 128 decides -/
theorem getV0_at {l : List UInt8} {i : Nat} {c : UInt8} (hc : l[i]? = some c) (hlow : c.toNat < 128) (hall : ∀ x ∈ l.take i, 128 ≤ x.toNat) (hi : i < 10) :
    getV 0 0 l = if putV (rawV (l.take (i + 1)) % 18446744073709551616) = l.take (i + 1) then some (rawV (l.take (i + 1)) % 18446744073709551616, l.drop (i + 1)) else none := by
  by_cases hq : putV (rawV (l.take (i + 1)) % 18446744073709551616) = l.take (i + 1)
  · rw [if_pos hq]
    have := getV0_put (n := rawV (l.take (i + 1)) % 18446744073709551616) (Nat.mod_lt _ (by decide)) (l.drop (i + 1))
    rwa [hq, List.take_append_drop] at this
  · rw [if_neg hq]
    cases hg : getV 0 0 l with
    | none => rfl
    | some p =>
      obtain ⟨n, t⟩ := p
      obtain ⟨e, hn⟩ := getV0 hg
      exfalso
      obtain ⟨d, x, e2, h1, h2⟩ := putV_shape n
      have hlen : d.length = i := by
        rcases Nat.lt_trichotomy d.length i with hlt | he | hgt
        · have : x ∈ l.take i := by
            have : (l.take i)[d.length]? = some x := by rw [List.getElem?_take, if_pos hlt, e, e2]; simp
            exact List.mem_of_getElem? this
          have := hall x this
          omega
        · exact he
        · have hd : l[i]? = d[i]? := by rw [e, e2, List.append_assoc, List.getElem?_append_left hgt]
          rw [hc] at hd
          have := h1 c (List.mem_of_getElem? hd.symm)
          omega
      have ht : l.take (i + 1) = putV n := by
        rw [e, List.take_append_of_le_length (by rw [e2, ← hlen]; simp), List.take_of_length_le (by rw [e2, ← hlen]; simp)]
      rw [ht, rawV_put, Nat.mod_eq_of_lt hn] at hq
      exact hq rfl
theorem getV0_none {l : List UInt8} (hall : ∀ x ∈ l.take 10, 128 ≤ x.toNat) : getV 0 0 l = none := by
  cases hg : getV 0 0 l with
  | none => rfl
  | some p =>
    obtain ⟨n, t⟩ := p
    obtain ⟨e, hn⟩ := getV0 hg
    obtain ⟨d, x, e2, h1, h2⟩ := putV_shape n
    have hl := putV_len10 hn
    have : x ∈ l.take 10 := by
      have : (l.take 10)[d.length]? = some x := by
        rw [e2] at hl
        simp at hl
        rw [List.getElem?_take, if_pos (by omega), e, e2]; simp
      exact List.mem_of_getElem? this
    have := hall x this
    omega

/-! ### check sums -/
def crcBit (c : Nat) : Nat := if c % 2 = 1 then c / 2 ^^^ 3988292384 else c / 2
def crcIt : Nat → Nat → Nat
  | 0, c => c
  | k + 1, c => crcBit (crcIt k c)
def crcB (c : Nat) (b : UInt8) : Nat := crcIt 8 (c ^^^ b.toNat)
def crcF (l : List UInt8) : Nat := l.foldl crcB 4294967295
def crcL (l : List UInt8) : Nat := 4294967295 - crcF l
theorem crcBit_lt {c : Nat} (h : c < 4294967296) : crcBit c < 4294967296 := by
  unfold crcBit
  split
  · exact Nat.xor_lt_two_pow (n := 32) (by omega) (by decide)
  · omega
theorem crcIt_lt {c : Nat} (h : c < 4294967296) : ∀ k, crcIt k c < 4294967296
  | 0 => h
  | k + 1 => crcBit_lt (crcIt_lt h k)
theorem crcB_lt {c : Nat} (h : c < 4294967296) (b : UInt8) : crcB c b < 4294967296 := by
  have hb : b.toNat < 256 := b.toNat_lt
  exact crcIt_lt (Nat.xor_lt_two_pow (n := 32) h (by omega)) 8
theorem crcF_snoc (l : List UInt8) (b : UInt8) : crcF (l ++ [b]) = crcB (crcF l) b := by simp [crcF]
theorem crcF_lt (l : List UInt8) : crcF l < 4294967296 := by
  unfold crcF
  suffices ∀ (l : List UInt8) (c : Nat), c < 4294967296 → l.foldl crcB c < 4294967296 from this l _ (by decide)
  intro l
  induction l with
  | nil => exact fun c h => h
  | cons x l ih => exact fun c h => ih _ (crcB_lt h x)
theorem crcL_lt (l : List UInt8) : crcL l < 4294967296 := by unfold crcL; omega

/-- a sum's four bytes -/
def markL (n : Nat) : List UInt8 := [byteN (n / 16777216 % 256), byteN (n / 65536 % 256), byteN (n / 256 % 256), byteN (n % 256)]
theorem markL_len (n : Nat) : (markL n).length = 4 := rfl

/-- a frame's bytes -/
def wrapL (l : List UInt8) : List UInt8 := putV l.length ++ markL (crcL l) ++ l
/-- the frame at the head: errno, body, what stands behind it -/
def nextL (l : List UInt8) : Nat × List UInt8 × List UInt8 :=
  match getV 0 0 l with
  | none => if l.length < 10 ∧ ∀ c ∈ l, 128 ≤ c.toNat then (20, [], []) else (21, [], [])
  | some (n, r) =>
    if 1048576 < n then (21, [], []) else if r.length < 4 + n then (20, [], [])
    else if r.take 4 = markL (crcL ((r.drop 4).take n)) then (0, (r.drop 4).take n, r.drop (4 + n)) else (21, [], [])
theorem next_wrap {l : List UInt8} (h : l.length ≤ 1048576) (t : List UInt8) : nextL (wrapL l ++ t) = (0, l, t) := by
  unfold nextL wrapL
  rw [List.append_assoc, List.append_assoc, getV0_put (by omega)]
  dsimp only
  rw [if_neg (by omega), if_neg (by simp [markL_len])]
  have e1 : (markL (crcL l) ++ (l ++ t)).take 4 = markL (crcL l) := by rw [List.take_append_of_le_length (by simp [markL_len])]; exact List.take_of_length_le (by simp [markL_len])
  have e2 : (markL (crcL l) ++ (l ++ t)).drop 4 = l ++ t := by rw [List.drop_append_of_le_length (by simp [markL_len])]; simp [markL]
  have e3 : (l ++ t).take l.length = l := by simp
  rw [e1, e2, e3, if_pos rfl, ← List.drop_drop, e2]
  simp

/-! ### readers -/
structure Rd where
  rest : List UInt8
  bad : Bool
def Rd.fail : Rd := ⟨[], true⟩
def Rd.Fine (r : Rd) : Prop := r.bad = true → r.rest = []
def numR (r : Rd) : Nat × Rd := if r.bad then (0, r) else match getV 0 0 r.rest with | none => (0, Rd.fail) | some (n, t) => (n, ⟨t, false⟩)
def intR (most : Nat) (r : Rd) : Nat × Rd := if (numR r).2.bad then (0, (numR r).2) else if most < (numR r).1 then (0, Rd.fail) else numR r
def takeR (n : Nat) (r : Rd) : List UInt8 × Rd := if r.bad then ([], r) else if r.rest.length < n then ([], Rd.fail) else (r.rest.take n, ⟨r.rest.drop n, false⟩)
def textR (r : Rd) : List UInt8 × Rd := if (numR r).2.bad then ([], (numR r).2) else takeR (numR r).1 (numR r).2
def endR (r : Rd) : Bool := !r.bad && r.rest.isEmpty
/-- a text's bytes -/
def textL (l : List UInt8) : List UInt8 := putV l.length ++ l

theorem numR_put {n : Nat} (h : n < 18446744073709551616) (t : List UInt8) : numR ⟨putV n ++ t, false⟩ = (n, ⟨t, false⟩) := by simp [numR, getV0_put h]
theorem intR_put {n most : Nat} (h : n < 18446744073709551616) (hm : n ≤ most) (t : List UInt8) : intR most ⟨putV n ++ t, false⟩ = (n, ⟨t, false⟩) := by
  simp only [intR, numR_put h]; simp; omega
theorem takeR_put (l t : List UInt8) : takeR l.length ⟨l ++ t, false⟩ = (l, ⟨t, false⟩) := by simp [takeR]; omega
theorem textR_put {l : List UInt8} (h : l.length < 18446744073709551616) (t : List UInt8) : textR ⟨textL l ++ t, false⟩ = (l, ⟨t, false⟩) := by
  simp only [textR, textL, List.append_assoc, numR_put h, takeR_put]; simp
theorem numR_bad {r : Rd} (h : r.bad = true) : numR r = (0, r) := by simp [numR, h]
theorem intR_bad {r : Rd} {m : Nat} (h : r.bad = true) : intR m r = (0, r) := by simp [intR, numR_bad h, h]
theorem textR_bad {r : Rd} (h : r.bad = true) : textR r = ([], r) := by simp [textR, numR_bad h, h]
theorem numR_fine {r : Rd} (h : r.Fine) : (numR r).2.Fine := by
  unfold numR
  split
  · exact h
  · split
    · exact fun _ => rfl
    · exact fun h => by cases h
theorem intR_fine {r : Rd} {m : Nat} (h : r.Fine) : (intR m r).2.Fine := by
  unfold intR
  split
  · exact numR_fine h
  · split
    · exact fun _ => rfl
    · exact numR_fine h
theorem takeR_fine {r : Rd} {n : Nat} (h : r.Fine) : (takeR n r).2.Fine := by
  unfold takeR
  split
  · exact h
  · split
    · exact fun _ => rfl
    · exact fun h => by cases h
theorem textR_fine {r : Rd} (h : r.Fine) : (textR r).2.Fine := by
  unfold textR
  split
  · exact numR_fine h
  · exact takeR_fine (numR_fine h)
/-- what a reader that stays good has read -/
theorem numR_good {r : Rd} (h : (numR r).2.bad = false) : r.bad = false ∧ r.rest = putV (numR r).1 ++ (numR r).2.rest ∧ (numR r).1 < 18446744073709551616 := by
  unfold numR at h ⊢
  split at h
  · rename_i hb; rw [h] at hb; cases hb
  · rename_i hb
    cases hg : getV 0 0 r.rest with
    | none => rw [hg] at h; cases h
    | some p =>
      obtain ⟨n, t⟩ := p
      obtain ⟨e, hn⟩ := getV0 hg
      simp only [hb]
      exact ⟨by simp, e, hn⟩
theorem intR_good {r : Rd} {m : Nat} (h : (intR m r).2.bad = false) : r.bad = false ∧ r.rest = putV (intR m r).1 ++ (intR m r).2.rest ∧ (intR m r).1 ≤ m := by
  unfold intR at h ⊢
  split at h
  · rename_i hb; rw [h] at hb; cases hb
  · split at h
    · cases h
    · rename_i hb hm
      rw [if_neg hb, if_neg hm]
      obtain ⟨h1, h2, _⟩ := numR_good h
      exact ⟨h1, h2, by omega⟩
theorem takeR_good {r : Rd} {n : Nat} (h : (takeR n r).2.bad = false) : r.bad = false ∧ r.rest = (takeR n r).1 ++ (takeR n r).2.rest ∧ (takeR n r).1.length = n := by
  unfold takeR at h ⊢
  split at h
  · rename_i hb; rw [h] at hb; cases hb
  · split at h
    · cases h
    · rename_i hb hm
      rw [if_neg hb, if_neg hm]
      exact ⟨by simpa using hb, by simp, by simp; omega⟩
theorem textR_good {r : Rd} (h : (textR r).2.bad = false) : r.bad = false ∧ r.rest = textL (textR r).1 ++ (textR r).2.rest := by
  unfold textR at h ⊢
  split at h
  · rename_i hb; rw [h] at hb; cases hb
  · rename_i hb
    rw [if_neg hb]
    obtain ⟨h1, h2, _⟩ := numR_good (r := r) (by simpa using hb)
    obtain ⟨_, h4, h5⟩ := takeR_good h
    refine ⟨h1, ?_⟩
    rw [h2, h4, textL, List.append_assoc]
    rw [h5]
theorem len_numR (r : Rd) : (numR r).2.rest.length ≤ r.rest.length := by
  unfold numR
  split
  · exact Nat.le_refl _
  · split
    · simp [Rd.fail]
    · rename_i n t hg
      obtain ⟨e, _⟩ := getV0 hg
      rw [e]; simp
theorem len_intR (m : Nat) (r : Rd) : (intR m r).2.rest.length ≤ r.rest.length := by
  unfold intR
  split
  · exact len_numR r
  · split
    · simp [Rd.fail]
    · exact len_numR r
theorem len_takeR (n : Nat) (r : Rd) : (takeR n r).2.rest.length ≤ r.rest.length ∧ (takeR n r).1.length ≤ r.rest.length := by
  unfold takeR
  split
  · simp
  · split
    · simp [Rd.fail]
    · simp; omega
theorem len_textR (r : Rd) : (textR r).2.rest.length ≤ r.rest.length ∧ (textR r).1.length ≤ r.rest.length := by
  unfold textR
  split
  · exact ⟨len_numR r, by simp⟩
  · have := len_takeR (numR r).1 (numR r).2
    have := len_numR r
    omega
end Go.Lf
