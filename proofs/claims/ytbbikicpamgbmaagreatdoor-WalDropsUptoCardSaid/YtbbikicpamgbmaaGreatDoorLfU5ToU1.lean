/-
  LIFT, part U5: floats that are whole numbers: what they stand for; order, sums, products, back to integers.
-/
import Derived.Test.YtbbikicpamgbmaaGreatDoorLfKToL
import Derived.Laws.FloatArith
import Derived.MapKept
import Derived.Maps.Own
import Derived.Lib.Bytealg
import Derived.Sort.KeysCollected
import Derived.StringKeys
set_option maxRecDepth 100000
namespace Go.Lf
open Go Ieee

abbrev fD : Format := Ieee.double

theorem signed_mul (s : Bool) (m u v : Nat) : signed s m (u + v) = signed s m u * (2 : Int) ^ v := by
  unfold signed
  rw [Nat.shiftLeft_eq, Nat.shiftLeft_eq, Nat.pow_add, ← Nat.mul_assoc]
  split
  · push_cast; rw [Int.neg_mul]
  · push_cast; rfl

/-- a datum, the bits stand for a whole number -/
def DV (d : Datum) (n : Int) : Prop := ∃ s m, ∃ k : Nat, d = .number s m (-(k : Int)) ∧ signed s m 0 = n * (2 : Int) ^ k
def VR (b : Nat) (n : Int) : Prop := DV (fD.read b) n

theorem signed_up (s : Bool) (m u : Nat) : signed s m u = signed s m 0 * (2 : Int) ^ u := by
  have := signed_mul s m 0 u
  rwa [Nat.zero_add] at this
theorem pow_pos (k : Nat) : (0 : Int) < (2 : Int) ^ k := Int.pow_pos (by decide)

theorem compare_mul (a b : Int) (k : Nat) : compare (a * (2 : Int) ^ k) (b * (2 : Int) ^ k) = compare a b := by
  have hk := pow_pos k
  simp only [compare, compareOfLessAndEq]
  have h1 : (a * 2 ^ k < b * 2 ^ k) ↔ a < b := Int.mul_lt_mul_right hk
  have h2 : (a * 2 ^ k = b * 2 ^ k) ↔ a = b := Int.mul_eq_mul_right_iff (by omega)
  by_cases c1 : a < b <;> by_cases c2 : a = b <;> simp [h1, h2, c1, c2]

/-- the order of two whole numbers -/
theorem DV.order {x y : Datum} {n m : Int} (hx : DV x n) (hy : DV y m) : x.order y = some (compare n m) := by
  obtain ⟨s, a, k, rfl, h⟩ := hx
  obtain ⟨t, b, l, rfl, g⟩ := hy
  simp only [Datum.order]
  congr 1
  have e1 : (-(k : Int) - min (-(k : Int)) (-(l : Int))).toNat = max k l - k := by omega
  have e2 : (-(l : Int) - min (-(k : Int)) (-(l : Int))).toNat = max k l - l := by omega
  rw [e1, e2, signed_up s, signed_up t, h, g, Int.mul_assoc, Int.mul_assoc, ← Int.pow_add, ← Int.pow_add, show k + (max k l - k) = max k l by omega, show l + (max k l - l) = max k l by omega, compare_mul]
theorem VR.order {x y : Nat} {n m : Int} (hx : VR x n) (hy : VR y m) : fD.order x y = some (compare n m) := DV.order hx hy

theorem cmp_eq {n m : Int} : (compare n m = .eq) ↔ n = m := by
  simp only [compare, compareOfLessAndEq]
  by_cases c1 : n < m <;> by_cases c2 : n = m <;> simp [c1, c2] <;> omega
theorem cmp_lt' {n m : Int} : (compare n m = .lt) ↔ n < m := by
  simp only [compare, compareOfLessAndEq]
  by_cases c1 : n < m <;> by_cases c2 : n = m <;> simp [c1, c2]
theorem cmp_gt {n m : Int} : (compare n m = .gt) ↔ m < n := by
  simp only [compare, compareOfLessAndEq]
  by_cases c1 : n < m <;> by_cases c2 : n = m <;> simp [c1, c2] <;> omega

/-! ### written exactly -/
theorem read_word (neg : Bool) {rung : Nat} (h : rung < fD.signWeight) :
    fD.read (fD.word neg rung) = if rung < fD.binade then .number neg rung fD.leastPlace else if rung < fD.infRung then .number neg (fD.binade + rung % fD.binade) (fD.leastPlace + (rung / fD.binade - 1 : Nat)) else if rung = fD.infRung then .infinity neg else .nan neg (rung - fD.infRung) := by
  have hs : 0 < fD.signWeight := Nat.two_pow_pos _
  have e1 : (fD.word neg rung / fD.signWeight % 2 == 1) = neg := by
    unfold Format.word
    cases neg
    · simp [Nat.div_eq_of_lt h]
    · simp [Nat.add_div_left _ hs, Nat.div_eq_of_lt h]
  have e2 : fD.word neg rung % fD.signWeight = rung := by
    unfold Format.word
    cases neg
    · simp [Nat.mod_eq_of_lt h]
    · simp [Nat.mod_eq_of_lt h]
  unfold Format.read
  simp only [e1, e2]

theorem signed_zero (s : Bool) (u : Nat) : signed s 0 u = 0 := by cases s <;> simp [signed]
theorem hbin : fD.binade = 4503599627370496 := by decide
theorem hinf : fD.infRung = 9218868437227405312 := by decide
theorem hsgn : fD.signWeight = 9223372036854775808 := by decide
theorem hleast : fD.leastPlace = -1074 := by decide
theorem hfrac : fD.fractionBits = 52 := rfl
theorem vr_zero (neg : Bool) : VR (fD.word neg 0) 0 := by
  refine ⟨neg, 0, 1074, ?_, by rw [signed_zero, Int.zero_mul]⟩
  rw [read_word neg (by rw [hsgn]; decide), if_pos (by rw [hbin]; decide), hleast]; rfl

theorem log2_mul_pow {v : Nat} (hv : 0 < v) (K : Nat) : (v * 2 ^ K).log2 = v.log2 + K := by
  have h0 : v ≠ 0 := by omega
  have hp : 0 < 2 ^ K := Nat.two_pow_pos K
  have hne : v * 2 ^ K ≠ 0 := Nat.mul_ne_zero h0 (by omega)
  have h1 : 2 ^ v.log2 ≤ v := (Nat.le_log2 h0).1 (Nat.le_refl _)
  have h2 : v < 2 ^ (v.log2 + 1) := (Nat.log2_lt h0).1 (Nat.lt_succ_self _)
  have h3 : v.log2 + K ≤ (v * 2 ^ K).log2 := by
    rw [Nat.le_log2 hne, Nat.pow_add]
    exact Nat.mul_le_mul_right _ h1
  have h4 : (v * 2 ^ K).log2 < v.log2 + 1 + K := by
    rw [Nat.log2_lt hne, Nat.pow_add]
    exact Nat.mul_lt_mul_of_pos_right h2 hp
  omega

theorem cut_zero (neg : Bool) (n : Nat) : Toward.even.cut neg n 0 = n := by
  simp [Toward.cut, Nat.mod_one]
theorem cut_exact (way : Toward) (neg : Bool) {M d : Nat} (hM : 0 < M) : way.cut neg (M * 2 ^ d) d = M := by
  unfold Toward.cut
  have hd : min d ((M * 2 ^ d).log2 + 2) = d := by rw [log2_mul_pow hM]; omega
  have hp : 0 < 2 ^ d := Nat.two_pow_pos d
  simp only [hd, Nat.one_shiftLeft, Nat.mul_mod_left, Nat.mul_div_cancel _ hp]
  cases way
  · have h1 : ¬ (2 ^ d = 0) := by omega
    simp [h1]
  all_goals simp

theorem rung_min {L M : Nat} (hl : L ≤ 52) (h2 : M < 9007199254740992) : min ((L + 1022) * 4503599627370496 + M) 9218868437227405312 = (L + 1022) * 4503599627370496 + M := by omega
theorem rung_a {L M : Nat} (h1 : 4503599627370496 ≤ M) : ¬ (L + 1022) * 4503599627370496 + M < 4503599627370496 := by omega
theorem rung_b {L M : Nat} (hl : L ≤ 52) (h2 : M < 9007199254740992) : (L + 1022) * 4503599627370496 + M < 9218868437227405312 := by omega
theorem rung_c {L M : Nat} (h1 : 4503599627370496 ≤ M) (h2 : M < 9007199254740992) : ((L + 1022) * 4503599627370496 + M) % 4503599627370496 = M - 4503599627370496 ∧ ((L + 1022) * 4503599627370496 + M) / 4503599627370496 = L + 1023 := by omega
theorem rung_d {M : Nat} (h1 : 4503599627370496 ≤ M) : 4503599627370496 + (M - 4503599627370496) = M := by omega
theorem rung_e {L : Nat} (hl : L ≤ 52) : (-1074 : Int) + ((L + 1023 - 1 : Nat) : Int) = (L : Int) - 52 := by omega
theorem rung_g {L : Nat} (hl : L ≤ 52) : (L : Int) - 52 = -((52 - L : Nat) : Int) := by omega
theorem rung_f {L M : Nat} (hl : L ≤ 52) (h2 : M < 9007199254740992) : (L + 1022) * 4503599627370496 + M < 9223372036854775808 := by omega
theorem nearest_exact (neg : Bool) {v K : Nat} (hv : 0 < v) (h53 : v < 9007199254740992) : VR (fD.nearest neg (v * 2 ^ K) (-(K : Int))) (if neg then -(v : Int) else v) := by
  have h0 : v ≠ 0 := by omega
  have hlog := log2_mul_pow hv K
  have hl : v.log2 ≤ 52 := by
    have : v.log2 < 53 := (Nat.log2_lt h0).2 (by simpa using h53)
    omega
  have hv1 : 2 ^ v.log2 ≤ v := (Nat.le_log2 h0).1 (Nat.le_refl _)
  have hv2 : v < 2 ^ (v.log2 + 1) := (Nat.log2_lt h0).1 (Nat.lt_succ_self _)
  have hne : ¬ v * 2 ^ K = 0 := Nat.mul_ne_zero h0 (by have := Nat.two_pow_pos K; omega)
  generalize hL : v.log2 = L at *
  have hM1 : 4503599627370496 ≤ v * 2 ^ (52 - L) := by
    have h1 : 2 ^ L * 2 ^ (52 - L) ≤ v * 2 ^ (52 - L) := Nat.mul_le_mul_right _ hv1
    rw [← Nat.pow_add, show L + (52 - L) = 52 by omega] at h1
    exact h1
  have hM2 : v * 2 ^ (52 - L) < 9007199254740992 := by
    have h1 : v * 2 ^ (52 - L) < 2 ^ (L + 1) * 2 ^ (52 - L) := Nat.mul_lt_mul_of_pos_right hv2 (Nat.two_pow_pos _)
    rw [← Nat.pow_add, show L + 1 + (52 - L) = 53 by omega] at h1
    exact h1
  have hn : fD.nearest neg (v * 2 ^ K) (-(K : Int)) = fD.word neg ((L + 1022) * 4503599627370496 + v * 2 ^ (52 - L)) := by
    unfold Format.nearest
    rw [if_neg hne]
    have hmax : max (-(K : Int) + ((v * 2 ^ K).log2 : Nat) - (fD.fractionBits : Nat)) fD.leastPlace = (L : Int) - 52 := by
      rw [hlog, hleast, hfrac]; push_cast; omega
    simp only [hmax]
    have hcut : Toward.even.cut neg ((v * 2 ^ K) <<< (-(K : Int) - ((L : Int) - 52)).toNat) (((L : Int) - 52) - -(K : Int)).toNat = v * 2 ^ (52 - L) := by
      by_cases hc : K + L ≤ 52
      · have e1 : (((L : Int) - 52) - -(K : Int)).toNat = 0 := by omega
        have e2 : (-(K : Int) - ((L : Int) - 52)).toNat = 52 - L - K := by omega
        rw [e1, e2, cut_zero, Nat.shiftLeft_eq, Nat.mul_assoc, ← Nat.pow_add]
        congr 2; omega
      · have e1 : (((L : Int) - 52) - -(K : Int)).toNat = L + K - 52 := by omega
        have e2 : (-(K : Int) - ((L : Int) - 52)).toNat = 0 := by omega
        have e3 : v * 2 ^ K = (v * 2 ^ (52 - L)) * 2 ^ (L + K - 52) := by
          rw [Nat.mul_assoc, ← Nat.pow_add]; congr 2; omega
        rw [e1, e2, Nat.shiftLeft_zero, e3, cut_exact _ _ (by omega)]
    have hpl : (((L : Int) - 52) - fD.leastPlace).toNat = L + 1022 := by rw [hleast]; omega
    rw [hcut, hpl, hbin, hinf, rung_min hl hM2]
  rw [hn]
  have hr : (L + 1022) * 4503599627370496 + v * 2 ^ (52 - L) < fD.signWeight := by rw [hsgn]; exact rung_f hl hM2
  refine ⟨neg, v * 2 ^ (52 - L), 52 - L, ?_, ?_⟩
  · rw [read_word neg hr, hbin, hinf, hleast, if_neg (rung_a hM1), if_pos (rung_b hl hM2), (rung_c hM1 hM2).1, (rung_c hM1 hM2).2, rung_d hM1, rung_e hl, rung_g hl]
  · unfold signed
    rw [Nat.shiftLeft_zero]
    cases neg
    · simp
    · simp [Int.neg_mul]

/-- a written number that is whole -/
theorem vr_write {s : Bool} {a : Nat} {K : Nat} {n : Int} (h : signed s a 0 = n * (2 : Int) ^ K) (hn : n.natAbs < 9007199254740992) : VR (fD.write (.number s a (-(K : Int)))) n := by
  show VR (fD.nearest s a (-(K : Int))) n
  have hp := pow_pos K
  have h2 : (2 : Int) ^ K = ((2 ^ K : Nat) : Int) := by push_cast; rfl
  by_cases h0 : n = 0
  · subst h0
    have ha : a = 0 := by
      unfold signed at h
      rw [Nat.shiftLeft_zero, Int.zero_mul] at h
      split at h <;> omega
    subst ha
    have e : fD.nearest s 0 (-(K : Int)) = fD.word s 0 := by unfold Format.nearest; rw [if_pos rfl]
    rw [e]; exact vr_zero s
  · have ha : a = n.natAbs * 2 ^ K ∧ (if s then -(n.natAbs : Int) else n.natAbs) = n := by
      unfold signed at h
      rw [Nat.shiftLeft_zero] at h
      have hnat : (a : Int).natAbs = (n * 2 ^ K).natAbs := by
        rw [← h]; split <;> simp
      have e : (n * 2 ^ K).natAbs = n.natAbs * 2 ^ K := by
        rw [Int.natAbs_mul, h2, Int.natAbs_natCast]
      refine ⟨by rw [e] at hnat; simpa using hnat, ?_⟩
      split at h
      · rename_i hs
        rw [if_pos hs]
        have : n * (2 : Int) ^ K ≤ 0 := by omega
        have : n ≤ 0 := by
          rcases Int.lt_or_le 0 n with h3 | h3
          · have := Int.mul_pos h3 hp; omega
          · exact h3
        omega
      · rename_i hs
        rw [if_neg hs]
        have : 0 ≤ n * (2 : Int) ^ K := by omega
        have : 0 ≤ n := by
          rcases Int.lt_or_le n 0 with h3 | h3
          · have := Int.mul_neg_of_neg_of_pos h3 hp; omega
          · exact h3
        omega
    rw [ha.1]
    have := nearest_exact s (v := n.natAbs) (K := K) (by omega) hn
    rw [ha.2] at this
    exact this

theorem vr_int {n : Int} (hn : n.natAbs < 9007199254740992) : VR (floatOfInt .f64 n) n := by
  show VR (fD.write (.number (n < 0) n.natAbs 0)) n
  have := vr_write (s := decide (n < 0)) (a := n.natAbs) (K := 0) (n := n) (by
    unfold signed
    rw [Nat.shiftLeft_zero]
    split
    · rename_i h; simp at h; simp; omega
    · rename_i h; simp at h; simp; omega) hn
  simpa using this

theorem signed_back (t : Int) : signed (decide (t < 0)) t.natAbs 0 = t := by
  unfold signed
  rw [Nat.shiftLeft_zero]
  split
  · rename_i h; simp at h; omega
  · rename_i h; simp at h; omega

theorem DV.sum {x y : Datum} {n m : Int} (hx : DV x n) (hy : DV y m) (hn : (n + m).natAbs < 9007199254740992) : ∃ d, x.sum y = some d ∧ VR (fD.write d) (n + m) := by
  obtain ⟨s, a, k, rfl, h⟩ := hx
  obtain ⟨t, b, l, rfl, g⟩ := hy
  refine ⟨_, rfl, ?_⟩
  have e0 : min (-(k : Int)) (-(l : Int)) = -((max k l : Nat) : Int) := by omega
  have e1 : (-(k : Int) - min (-(k : Int)) (-(l : Int))).toNat = max k l - k := by omega
  have e2 : (-(l : Int) - min (-(k : Int)) (-(l : Int))).toNat = max k l - l := by omega
  have et : signed s a (-(k : Int) - min (-(k : Int)) (-(l : Int))).toNat + signed t b (-(l : Int) - min (-(k : Int)) (-(l : Int))).toNat = (n + m) * (2 : Int) ^ (max k l) := by
    rw [e1, e2, signed_up s, signed_up t, h, g, Int.mul_assoc, Int.mul_assoc, ← Int.pow_add, ← Int.pow_add, show k + (max k l - k) = max k l by omega, show l + (max k l - l) = max k l by omega, Int.add_mul]
  simp only [et]
  rw [e0]
  generalize hT : (n + m) * (2 : Int) ^ (max k l) = T at *
  refine vr_write ?_ hn
  rw [hT]
  split
  · rename_i h0
    rw [h0]; exact (signed_zero _ _).trans (by rw [← h0])
  · exact (signed_back T)

theorem DV.opposite {x : Datum} {n : Int} (hx : DV x n) : DV x.opposite (-n) := by
  obtain ⟨s, a, k, rfl, h⟩ := hx
  refine ⟨!s, a, k, rfl, ?_⟩
  rw [Int.neg_mul, ← h]
  unfold signed
  cases s <;> simp

theorem VR.add {x y : Nat} {n m : Int} (hx : VR x n) (hy : VR y m) (hn : (n + m).natAbs < 9007199254740992) : ∃ r, fD.add x y = some r ∧ VR r (n + m) := by
  obtain ⟨d, h1, h2⟩ := DV.sum hx hy hn
  unfold Format.add
  rw [h1]; exact ⟨_, rfl, h2⟩
theorem VR.sub {x y : Nat} {n m : Int} (hx : VR x n) (hy : VR y m) (hn : (n - m).natAbs < 9007199254740992) : ∃ r, fD.sub x y = some r ∧ VR r (n - m) := by
  obtain ⟨d, h1, h2⟩ := DV.sum hx (DV.opposite hy) (by rw [← Int.sub_eq_add_neg]; exact hn)
  unfold Format.sub
  rw [h1]; exact ⟨_, rfl, by rw [Int.sub_eq_add_neg]; exact h2⟩
theorem VR.mul {x y : Nat} {n m : Int} (hx : VR x n) (hy : VR y m) (hn : (n * m).natAbs < 9007199254740992) : ∃ r, fD.mul x y = some r ∧ VR r (n * m) := by
  obtain ⟨s, a, k, hr, h⟩ := hx
  obtain ⟨t, b, l, hq, g⟩ := hy
  unfold Format.mul
  rw [hr, hq]
  simp only [Datum.product, Option.map_some]
  refine ⟨_, rfl, ?_⟩
  have e : -(k : Int) + -(l : Int) = -((k + l : Nat) : Int) := by omega
  rw [e]
  refine vr_write ?_ hn
  have : signed (s ^^ t) (a * b) 0 = signed s a 0 * signed t b 0 := by
    unfold signed
    simp only [Nat.shiftLeft_zero]
    cases s <;> cases t <;> simp [Int.neg_mul, Int.mul_neg]
  rw [this, h, g, Int.pow_add]
  simp only [Int.mul_assoc, Int.mul_comm, Int.mul_left_comm]

theorem read_neg (b : Nat) : fD.read (Op.negFloat .f64 b) = (fD.read b).opposite := by
  have e : Op.negFloat .f64 b = b ^^^ 2 ^ 63 := rfl
  have hs : fD.signWeight = 2 ^ 63 := by decide
  have h1 : (b ^^^ 2 ^ 63) % 2 ^ 63 = b % 2 ^ 63 := by rw [Nat.xor_mod_two_pow]; simp
  have h2 : ((b ^^^ 2 ^ 63) / 2 ^ 63 % 2 == 1) = !(b / 2 ^ 63 % 2 == 1) := by
    rw [Nat.xor_div_two_pow, Nat.div_self (Nat.two_pow_pos _)]
    have h3 : ((b / 2 ^ 63) ^^^ 1) % 2 = 1 ↔ ¬ (b / 2 ^ 63) % 2 = 1 := by
      rw [Nat.xor_mod_two_eq_one]; simp
    rw [Bool.eq_iff_iff]
    simp only [beq_iff_eq, Bool.not_eq_true', beq_eq_false_iff_ne]
    exact h3
  rw [e]
  unfold Format.read
  rw [hs, h1, h2]
  simp only
  split
  · rfl
  · split
    · rfl
    · split <;> rfl
theorem VR.neg {x : Nat} {n : Int} (hx : VR x n) : VR (Op.negFloat .f64 x) (-n) := by
  unfold VR; rw [read_neg]; exact DV.opposite hx

theorem DV.toInt {x : Datum} {n : Int} (hx : DV x n) (way : Toward) : x.toInt way = some n := by
  obtain ⟨s, a, k, rfl, h⟩ := hx
  have hk := pow_pos k
  unfold Datum.toInt Datum.integral
  have e1 : (-(k : Int)).toNat = 0 := by omega
  have e2 : (-(-(k : Int))).toNat = k := by omega
  simp only [e1, e2, Nat.shiftLeft_zero]
  by_cases h0 : n = 0
  · subst h0
    have ha : a = 0 := by
      unfold signed at h
      rw [Nat.shiftLeft_zero, Int.zero_mul] at h
      split at h <;> omega
    subst ha
    have : way.cut s 0 k = 0 := by
      unfold Toward.cut; cases way <;> simp
      all_goals (rcases Nat.lt_or_ge k 2 with hk2 | hk2)
      all_goals simp [Nat.one_shiftLeft]
    rw [this, signed_zero]
  · have ha : a = n.natAbs * 2 ^ k := by
      have h2 : (2 : Int) ^ k = ((2 ^ k : Nat) : Int) := by push_cast; rfl
      unfold signed at h
      rw [Nat.shiftLeft_zero] at h
      have hnat : (a : Int).natAbs = (n * 2 ^ k).natAbs := by rw [← h]; split <;> simp
      have e : (n * 2 ^ k).natAbs = n.natAbs * 2 ^ k := by rw [Int.natAbs_mul, h2, Int.natAbs_natCast]
      rw [e] at hnat; simpa using hnat
    rw [ha, cut_exact _ _ (by omega)]
    congr 1
    have : signed s a 0 = signed s n.natAbs 0 * (2 : Int) ^ k := by
      rw [ha]; unfold signed; simp only [Nat.shiftLeft_zero]
      split
      · push_cast; rw [Int.neg_mul]
      · push_cast; rfl
    rw [this] at h
    exact Int.eq_of_mul_eq_mul_right (by omega) h
theorem VR.toInt {x : Nat} {n : Int} (hx : VR x n) (hn : n.natAbs < 9007199254740992) : floatToIntVal .f64 x .i64 = some n := by
  have := DV.toInt hx .zero
  unfold floatToIntVal
  have e : (FloatKind.f64.decode x).toInt .zero = some n := this
  rw [e]
  have h1 : IntKind.i64.min = -9223372036854775808 := by simp [IntKind.min, IntKind.bits, IntKind.signed]
  have h2 : IntKind.i64.max = 9223372036854775807 := by simp [IntKind.max, IntKind.bits, IntKind.signed]
  simp only [h1, h2]
  rw [if_pos (by omega)]

/-! ### whatever bits -/
theorem read_form {b : Nat} {s : Bool} {m : Nat} {i : Int} (h : fD.read b = .number s m i) : i ≤ 0 ∨ 4503599627370496 ≤ m := by
  unfold Format.read at h
  simp only [hbin, hinf, hleast] at h
  split at h
  · injection h with _ _ h3; exact .inl (by omega)
  · split at h
    · injection h with _ h2 _; exact .inr (by omega)
    · split at h <;> cases h

theorem signed_abs (s : Bool) (m u : Nat) : (signed s m u).natAbs = m * 2 ^ u := by
  unfold signed
  rw [Nat.shiftLeft_eq]
  split
  · rw [Int.natAbs_neg, Int.natAbs_natCast]
  · rw [Int.natAbs_natCast]

/-- what is equal to a whole number stands for it -/
theorem VR.of_eq {x y : Nat} {m : Int} (hy : VR y m) (hm : m.natAbs < 4503599627370496) (h : fD.order x y = some .eq) : VR x m := by
  obtain ⟨t, b, l, hq, g⟩ := hy
  unfold Format.order at h
  rw [hq] at h
  unfold VR
  cases hr : fD.read x with
  | nan s f => rw [hr] at h; simp [Datum.order] at h
  | infinity s => rw [hr] at h; cases s <;> simp [Datum.order] at h
  | number s a i =>
    rw [hr] at h
    simp only [Datum.order, Option.some.injEq] at h
    rw [cmp_eq] at h
    by_cases hi : i ≤ 0
    · refine ⟨s, a, (-i).toNat, by rw [show -(((-i).toNat : Nat) : Int) = i by omega], ?_⟩
      generalize hk : (-i).toNat = k
      have e1 : (i - min i (-(l : Int))).toNat = max k l - k := by omega
      have e2 : (-(l : Int) - min i (-(l : Int))).toNat = max k l - l := by omega
      rw [e1, e2, signed_up s, signed_up t, g, Int.mul_assoc, ← Int.pow_add, show l + (max k l - l) = max k l by omega] at h
      refine Int.eq_of_mul_eq_mul_right (a := (2 : Int) ^ (max k l - k)) (by have := pow_pos (max k l - k); omega) ?_
      rw [h, Int.mul_assoc, ← Int.pow_add, show k + (max k l - k) = max k l by omega]
    · exfalso
      have ha := (read_form hr).resolve_left hi
      have e1 : (i - min i (-(l : Int))).toNat = i.toNat + l := by omega
      have e2 : (-(l : Int) - min i (-(l : Int))).toNat = 0 := by omega
      rw [e1, e2, g] at h
      have h1 := congrArg Int.natAbs h
      have h2 : (2 : Int) ^ l = ((2 ^ l : Nat) : Int) := by push_cast; rfl
      rw [signed_abs, Int.natAbs_mul, h2, Int.natAbs_natCast, Nat.pow_add, ← Nat.mul_assoc] at h1
      have h3 : a * 2 ^ i.toNat = m.natAbs := Nat.eq_of_mul_eq_mul_right (Nat.two_pow_pos l) h1
      have h4 : 1 ≤ 2 ^ i.toNat := Nat.two_pow_pos _
      have h5 : a * 1 ≤ a * 2 ^ i.toNat := Nat.mul_le_mul_left _ h4
      omega
theorem VR.eq_iff {x y : Nat} {m : Int} (hy : VR y m) (hm : m.natAbs < 4503599627370496) : fD.order x y = some .eq ↔ VR x m :=
  ⟨fun h => hy.of_eq hm h, fun h => by rw [VR.order h hy, cmp_eq.2 rfl]⟩
theorem VR.inj {x : Nat} {n m : Int} (h : VR x n) (g : VR x m) : n = m := by
  have h1 := VR.order h g
  have h2 := VR.order g g
  rw [h1] at h2
  have e : compare m m = .eq := cmp_eq.2 rfl
  rw [e] at h2
  exact cmp_eq.1 (Option.some.inj h2)

theorem cmp_ge {a b : Int} (h : compare a b = .gt ∨ compare a b = .eq) : b ≤ a := by
  rcases h with h | h
  · rw [cmp_gt] at h; omega
  · rw [cmp_eq] at h; omega
theorem cmp_le {a b : Int} (h : compare a b = .lt ∨ compare a b = .eq) : a ≤ b := by
  rcases h with h | h
  · rw [cmp_lt'] at h; omega
  · rw [cmp_eq] at h; omega

theorem scale_le {a : Nat} {i c : Int} {v : Nat} (h : a * 2 ^ (i - c).toNat ≤ 1024 * 2 ^ v) (h1 : c ≤ i) (h3 : (v : Int) = -c) {u : Nat} (hu : i + u ≥ 0) : a * 2 ^ (i + u).toNat ≤ 1024 * 2 ^ u := by
  rcases Nat.le_total u v with hv | hv
  · -- v is the finer scale
    have e : (i - c).toNat = (i + u).toNat + (v - u) := by omega
    have e2 : 2 ^ v = 2 ^ u * 2 ^ (v - u) := by rw [← Nat.pow_add]; congr 1; omega
    rw [e, Nat.pow_add, e2, ← Nat.mul_assoc, ← Nat.mul_assoc] at h
    exact Nat.le_of_mul_le_mul_right h (Nat.two_pow_pos _)
  · have e : (i + u).toNat = (i - c).toNat + (u - v) := by omega
    have e2 : 2 ^ u = 2 ^ v * 2 ^ (u - v) := by rw [← Nat.pow_add]; congr 1; omega
    rw [e, Nat.pow_add, e2, ← Nat.mul_assoc, ← Nat.mul_assoc]
    exact Nat.mul_le_mul_right _ h
/-- a number between two whole ones: it has a whole part -/
theorem whole_part {x lo hi : Nat} (hlo : VR lo (-1024)) (hhi : VR hi 1024) (h1 : fD.order x lo = some .gt ∨ fD.order x lo = some .eq) (h2 : fD.order x hi = some .lt ∨ fD.order x hi = some .eq) :
    ∃ n, floatToIntVal .f64 x .i64 = some n ∧ n.natAbs ≤ 1024 := by
  obtain ⟨t, b, l, hq, g⟩ := hlo
  obtain ⟨t', b', l', hq', g'⟩ := hhi
  unfold Format.order at h1 h2
  rw [hq] at h1
  rw [hq'] at h2
  cases hr : fD.read x with
  | nan s f => rw [hr] at h1; simp [Datum.order] at h1
  | infinity s => rw [hr] at h1 h2; cases s <;> simp [Datum.order] at h1 h2
  | number s a i =>
    rw [hr] at h1 h2
    simp only [Datum.order, Option.some.injEq] at h1 h2
    have k1 := cmp_ge h1
    have k2 := cmp_le h2
    -- the magnitude, at one scale
    have hmag : ∀ u : Nat, i + u ≥ 0 → a * 2 ^ (i + u).toNat ≤ 1024 * 2 ^ u := by
      intro u hu
      have s1 := signed_up t b (-(l : Int) - min i (-(l : Int))).toNat
      have s2 := signed_up t' b' (-(l' : Int) - min i (-(l' : Int))).toNat
      rw [g] at s1
      rw [g'] at s2
      have pl : (2 : Int) ^ l = ((2 ^ l : Nat) : Int) := by push_cast; rfl
      by_cases hs : s = true
      · subst hs
        rw [s1] at k1
        have e : signed true a (i - min i (-(l : Int))).toNat = -((a * 2 ^ (i - min i (-(l : Int))).toNat : Nat) : Int) := by unfold signed; rw [if_pos rfl, Nat.shiftLeft_eq]
        rw [e, Int.mul_assoc, ← Int.pow_add] at k1
        have k3 : a * 2 ^ (i - min i (-(l : Int))).toNat ≤ 1024 * 2 ^ (l + (-(l : Int) - min i (-(l : Int))).toNat) := by
          have : (2 : Int) ^ (l + (-(l : Int) - min i (-(l : Int))).toNat) = ((2 ^ (l + (-(l : Int) - min i (-(l : Int))).toNat) : Nat) : Int) := by push_cast; rfl
          rw [this] at k1; omega
        exact scale_le (c := (min i (-(l : Int)))) k3 (by omega) (by omega) hu
      · have hs : s = false := by simpa using hs
        subst hs
        rw [s2] at k2
        have e : signed false a (i - min i (-(l' : Int))).toNat = ((a * 2 ^ (i - min i (-(l' : Int))).toNat : Nat) : Int) := by unfold signed; rw [if_neg (by simp), Nat.shiftLeft_eq]
        rw [e, Int.mul_assoc, ← Int.pow_add] at k2
        have k3 : a * 2 ^ (i - min i (-(l' : Int))).toNat ≤ 1024 * 2 ^ (l' + (-(l' : Int) - min i (-(l' : Int))).toNat) := by
          have : (2 : Int) ^ (l' + (-(l' : Int) - min i (-(l' : Int))).toNat) = ((2 ^ (l' + (-(l' : Int) - min i (-(l' : Int))).toNat) : Nat) : Int) := by push_cast; rfl
          rw [this] at k2; omega
        exact scale_le (c := (min i (-(l' : Int)))) k3 (by omega) (by omega) hu
    have hti : (fD.read x).toInt .zero = some (signed s (Toward.zero.cut s (a <<< i.toNat) (-i).toNat) 0) := by rw [hr]; rfl
    have hc : Toward.zero.cut s (a <<< i.toNat) (-i).toNat ≤ 1024 := by
      unfold Toward.cut
      simp only [Bool.toNat_false, Nat.add_zero]
      by_cases hi : 0 ≤ i
      · have e1 : (-i).toNat = 0 := by omega
        have h3 := hmag 0 (by omega)
        rw [e1, Nat.zero_min, Nat.shiftLeft_zero, Nat.div_one, Nat.shiftLeft_eq]
        simpa using h3
      · have e1 : i.toNat = 0 := by omega
        have h3 := hmag (-i).toNat (by omega)
        rw [show (i + ((-i).toNat : Nat)).toNat = 0 by omega, Nat.pow_zero, Nat.mul_one] at h3
        rw [e1, Nat.shiftLeft_zero, Nat.one_shiftLeft]
        by_cases hd : (-i).toNat ≤ a.log2 + 2
        · rw [Nat.min_eq_left hd]
          exact Nat.div_le_of_le_mul (by rw [Nat.mul_comm]; exact h3)
        · rw [Nat.min_eq_right (by omega)]
          have : a < 2 ^ (a.log2 + 2) := by
            by_cases h0 : a = 0
            · subst h0; exact Nat.two_pow_pos _
            · have h5 : a < 2 ^ (a.log2 + 1) := (Nat.log2_lt h0).1 (Nat.lt_succ_self _)
              rw [Nat.pow_succ] at h5 ⊢
              rw [Nat.pow_succ]
              omega
          rw [Nat.div_eq_of_lt this]; omega
    generalize Toward.zero.cut s (a <<< i.toNat) (-i).toNat = c at hti hc
    have hn : (signed s c 0).natAbs = c := by rw [signed_abs]; simp
    refine ⟨signed s c 0, ?_, by omega⟩
    unfold floatToIntVal
    have e : (FloatKind.f64.decode x).toInt .zero = some (signed s c 0) := hti
    rw [e]
    have m1 : IntKind.i64.min = -9223372036854775808 := by simp [IntKind.min, IntKind.bits, IntKind.signed]
    have m2 : IntKind.i64.max = 9223372036854775807 := by simp [IntKind.max, IntKind.bits, IntKind.signed]
    simp only [m1, m2]
    rw [if_pos (by omega)]
end Go.Lf

/-
  LIFT, part U6: what is reckoned of floats and complex numbers, as rules.
-/
set_option maxRecDepth 100000
set_option linter.unusedVariables false
namespace Go.Lf
open Go Ieee

theorem RunK.calc {A : Amb} {P : Program} {s : Sem Value} {h : Heap} {K : Value → Heap → Prop} {v : Value} (hc : s.calc P = some v) (H : K v h) : RunK A P s h K := fun n => ⟨v, h, n, calc_sound hc _, H⟩
theorem RunK.run {A : Amb} {P : Program} {s : Sem Value} {h : Heap} {K : Value → Heap → Prop} {v : Value} (hc : ∀ w, s.run P w = .ok v w) (H : K v h) : RunK A P s h K := fun n => ⟨v, h, n, hc _, H⟩

section
variable {A : Amb} {P : Program} {t : TypeId} {o1 o2 : Operand} {x y : Nat} {h : Heap} {K : Value → Heap → Prop}
abbrev fop (op : BinOp) (t : TypeId) (o1 o2 : Operand) (x y : Nat) : Sem Value := do eqGuard op t o1 o2 (.float .f64 x) (.float .f64 y); binOp op t (.float .f64 x) (.float .f64 y)
theorem fgeq_ok (H : K (.bool (fD.order x y == some .gt || fD.order x y == some .eq)) h) : RunK A P (fop .geq t o1 o2 x y) h K := RunK.calc rfl H
theorem fleq_ok (H : K (.bool (fD.order x y == some .lt || fD.order x y == some .eq)) h) : RunK A P (fop .leq t o1 o2 x y) h K := RunK.calc rfl H
theorem fgtr_ok (H : K (.bool (fD.order x y == some .gt)) h) : RunK A P (fop .gtr t o1 o2 x y) h K := RunK.calc rfl H
theorem feql_ok (H : K (.bool (fD.order x y == some .eq)) h) : RunK A P (fop .eql t o1 o2 x y) h K := RunK.calc rfl H
theorem fneq_ok (H : K (.bool (fD.order x y != some .eq)) h) : RunK A P (fop .neq t o1 o2 x y) h K := RunK.calc rfl H
theorem fadd_ok {r : Nat} (hr : fD.add x y = some r) (H : K (.float .f64 r) h) : RunK A P (fop .add t o1 o2 x y) h K := by
  refine RunK.run (fun w => ?_) H
  have := run_float_arith (P := P) w .add t .f64 x y r hr
  simp only [fop, Sem.run_bind]
  have e : (eqGuard .add t o1 o2 (.float .f64 x) (.float .f64 y)).run P w = .ok () w := rfl
  rw [e, Result.andThen_ok, this]

/-- i times a place's number -/
theorem arith_run {op : BinOp} {r : Nat} (hr : floatBits op .f64 x y = some r) (w : World) : (Op.Complex.arith op .f64 x y).run P w = .ok r w := by
  unfold floatBits at hr
  unfold Op.Complex.arith
  cases op <;> simp only at hr <;> first | (cases hr; done) | skip
  all_goals
    have h1 : ∀ k, FloatKind.f64.format = k → True := fun _ _ => trivial
    simp [Op.floatArith, hr]

abbrev cop (op : BinOp) (t : TypeId) (o1 o2 : Operand) (a b c d : Nat) : Sem Value := do eqGuard op t o1 o2 (.complex .f64 a b) (.complex .f64 c d); binOp op t (.complex .f64 a b) (.complex .f64 c d)
theorem cmul_ok {a b c d r1 r2 e r3 r4 f : Nat} (h1 : fD.mul a c = some r1) (h2 : fD.mul b d = some r2) (h3 : fD.sub r1 r2 = some e) (h4 : fD.mul a d = some r3) (h5 : fD.mul b c = some r4) (h6 : fD.add r3 r4 = some f)
    (H : K (.complex .f64 e f) h) : RunK A P (cop .mul t o1 o2 a b c d) h K := by
  refine RunK.run (fun w => ?_) H
  have k1 := arith_run (P := P) (op := .mul) (x := a) (y := c) h1 w
  have k2 := arith_run (P := P) (op := .mul) (x := b) (y := d) h2 w
  have k3 := arith_run (P := P) (op := .sub) (x := r1) (y := r2) h3 w
  have k4 := arith_run (P := P) (op := .mul) (x := a) (y := d) h4 w
  have k5 := arith_run (P := P) (op := .mul) (x := b) (y := c) h5 w
  have k6 := arith_run (P := P) (op := .add) (x := r3) (y := r4) h6 w
  simp only [cop, Sem.run_bind]
  have e0 : (eqGuard .mul t o1 o2 (.complex .f64 a b) (.complex .f64 c d)).run P w = .ok () w := rfl
  rw [e0, Result.andThen_ok]
  have e1 : binOp .mul t (.complex .f64 a b) (.complex .f64 c d) = Op.complexOp .mul .f64 a b c d := by simp [binOp]
  rw [e1]
  simp [Op.complexOp, Op.Complex.conv, Op.Complex.product, Op.Complex.mul, Op.Complex.sub, Op.Complex.add, Sem.run_bind, k1, k2, k3, k4, k5, k6]
theorem ceql_ok {a b c d : Nat} (H : K (.bool (fD.order a c == some .eq && fD.order b d == some .eq)) h) : RunK A P (cop .eql t o1 o2 a b c d) h K := RunK.calc rfl H
theorem cneq_ok {a b c d : Nat} (H : K (.bool (!(fD.order a c == some .eq && fD.order b d == some .eq))) h) : RunK A P (cop .neq t o1 o2 a b c d) h K := RunK.calc rfl H
theorem real_ok {at_ : Array TypeId} {ty : TypeId} {a b : Nat} (H : K (.float .f64 a) h) : RunK A P (Builtin.real_ at_ ty #[.complex .f64 a b]) h K := RunK.calc rfl H
theorem imag_ok {at_ : Array TypeId} {ty : TypeId} {a b : Nat} (H : K (.float .f64 b) h) : RunK A P (Builtin.imag_ at_ ty #[.complex .f64 a b]) h K := RunK.calc rfl H
theorem complex_ok {at_ : Array TypeId} {ty : TypeId} {a b : Nat} (H : K (.complex .f64 a b) h) : RunK A P (Builtin.complex_ at_ ty #[.float .f64 a, .float .f64 b]) h K := RunK.calc rfl H
theorem f2i_ok {src dst : TypeId} {b : Nat} {n : Int} (hs : P.underlying src = some (.float .f64)) (hd : P.underlying dst = some (.int .i64)) (hv : floatToIntVal .f64 b .i64 = some n) (H : K (.int .i64 n) h) : RunK A P (convert src dst (.float .f64 b)) h K :=
  RunK.run (fun w => run_convert_float_int w src dst .f64 .i64 b n (by rw [hs]; rfl) hd hv) H
theorem i2f_ok {src dst : TypeId} {n : Int} (hs : P.underlying src = some (.int .i64)) (hd : P.underlying dst = some (.float .f64)) (H : K (.float .f64 (floatOfInt .f64 n)) h) : RunK A P (convert src dst (.int .i64 n)) h K := by
  refine RunK.run (fun w => ?_) H
  have e : FloatKind.f64.nearest n = floatOfInt .f64 n := rfl
  simp [convert, run_und hs, run_und hd, Conv.intToFloat, e]
theorem max_ok {at_ : Array TypeId} {ty : TypeId} {n m : Int} (hx : VR x n) (hy : VR y m) (H : ∀ r, VR r (max n m) → K (.float .f64 r) h) : RunK A P (Builtin.max_ at_ ty #[.float .f64 x, .float .f64 y]) h K := by
  have ho := VR.order hx hy
  have ho' : FloatKind.f64.format.order x y = some (compare n m) := ho
  by_cases h1 : n < m
  · have e : compare n m = .lt := cmp_lt'.2 h1
    refine RunK.run (v := .float .f64 y) (fun w => ?_) (H y (by rw [show max n m = m by omega]; exact hy))
    simp [Builtin.max_, Builtin.max2, ho', e]
  · by_cases h2 : m < n
    · have e : compare n m = .gt := cmp_gt.2 h2
      refine RunK.run (v := .float .f64 x) (fun w => ?_) (H x (by rw [show max n m = n by omega]; exact hx))
      simp [Builtin.max_, Builtin.max2, ho', e]
    · have hnm : n = m := by omega
      subst hnm
      have e : compare n n = .eq := cmp_eq.2 rfl
      refine RunK.run (v := .float .f64 (if (FloatKind.f64.decode x).neg then y else x)) (fun w => ?_) (H _ (by rw [show max n n = n by omega]; split <;> assumption))
      simp [Builtin.max_, Builtin.max2, ho', e]
end
end Go.Lf

/-
  LIFT, part U1: strings in order; lists of strings; maps of strings, with their stamps.
-/
set_option maxRecDepth 100000
namespace Go.Lf
open Go

theorem toList_inj {a b : ByteArray} : (a.toList == b.toList) = decide (a = b) := by
  rw [ByteArray.toList_eq, ByteArray.toList_eq]
  rw [Bool.eq_iff_iff]
  simp [ByteArray.ext_iff, ← Array.toList_inj]
theorem sEq_iff {a b : ByteArray} : sEq a b = decide (a = b) := toList_inj

/-! ### the order of strings -/
theorem bl_irrefl : ∀ (a : List UInt8), Op.bytesLess a a = false
  | [] => rfl
  | a :: x => by simp [Op.bytesLess, bl_irrefl x]
theorem bl_tri : ∀ (a b : List UInt8), Op.bytesLess a b = false → Op.bytesLess b a = false → a = b
  | [], [], _, _ => rfl
  | [], _ :: _, h, _ => by simp [Op.bytesLess] at h
  | _ :: _, [], _, h => by simp [Op.bytesLess] at h
  | a :: x, b :: y, h1, h2 => by
    simp only [Op.bytesLess, Bool.or_eq_false_iff, Bool.and_eq_false_iff, decide_eq_false_iff_not, beq_eq_false_iff_ne] at h1 h2
    have hab : a = b := by
      have h3 := h1.1; have h4 := h2.1
      exact UInt8.le_antisymm (UInt8.not_lt.1 h4) (UInt8.not_lt.1 h3)
    subst hab
    rw [bl_tri x y (h1.2.resolve_left (by simp)) (h2.2.resolve_left (by simp))]
theorem bl_trans : ∀ (a b c : List UInt8), Op.bytesLess a b = true → Op.bytesLess b c = true → Op.bytesLess a c = true
  | _, [], _, h, _ => by simp [Op.bytesLess] at h
  | _, _ :: _, [], _, h => by simp [Op.bytesLess] at h
  | [], _ :: _, _ :: _, _, _ => by simp [Op.bytesLess]
  | a :: x, b :: y, c :: z, h1, h2 => by
    simp only [Op.bytesLess, Bool.or_eq_true, Bool.and_eq_true, decide_eq_true_eq, beq_iff_eq] at h1 h2 ⊢
    rcases h1 with h1 | ⟨rfl, h1⟩
    · rcases h2 with h2 | ⟨rfl, h2⟩
      · exact .inl (UInt8.lt_trans h1 h2)
      · exact .inl h1
    · rcases h2 with h2 | ⟨rfl, h2⟩
      · exact .inl h2
      · exact .inr ⟨rfl, bl_trans x y z h1 h2⟩
theorem sLt_irrefl (a : ByteArray) : sLt a a = false := bl_irrefl _
theorem sLt_trans {a b c : ByteArray} (h1 : sLt a b = true) (h2 : sLt b c = true) : sLt a c = true := bl_trans _ _ _ h1 h2
theorem sLt_tri {a b : ByteArray} (h1 : sLt a b = false) (h2 : sLt b a = false) : a = b := by
  have := bl_tri _ _ h1 h2
  have h3 : sEq a b = true := by simp [sEq, this]
  rw [sEq_iff] at h3
  simpa using h3
theorem sLt_asymm {a b : ByteArray} (h1 : sLt a b = true) : sLt b a = false := by
  cases h : sLt b a
  · rfl
  · have := sLt_trans h1 h; rw [sLt_irrefl] at this; cases this
theorem lt_ne {a b : ByteArray} (h : sLt a b = true) : a ≠ b := by rintro rfl; rw [sLt_irrefl] at h; cases h
/-- a < b ≤ c -/
theorem sLt_le {a b c : ByteArray} (h1 : sLt a b = true) (h2 : sLt c b = false) : sLt a c = true := by
  cases h : sLt b c
  · rw [sLt_tri h2 h]; exact h1
  · exact sLt_trans h1 h
/-- a ≤ b ≤ c -/
theorem sLe_trans {a b c : ByteArray} (h1 : sLt b a = false) (h2 : sLt c b = false) : sLt c a = false := by
  cases h : sLt c a
  · rfl
  · have := sLt_le h h1; rw [this] at h2; cases h2

theorem bl_lex : ∀ (a b : List UInt8), Op.bytesLess a b = decide (a < b)
  | [], [] => by simp [Op.bytesLess]
  | [], _ :: _ => by simp [Op.bytesLess]
  | _ :: _, [] => by simp [Op.bytesLess]
  | a :: x, b :: y => by
    simp only [Op.bytesLess, bl_lex x y, List.cons_lt_cons_iff]
    by_cases h1 : a < b <;> by_cases h2 : a = b <;> simp [h1, h2]
theorem cmp_lt : ∀ (a b : List UInt8), decide (Lib.compareBytes a b < 0) = Op.bytesLess a b
  | [], [] => by simp [Lib.compareBytes, Op.bytesLess]
  | [], _ :: _ => by simp [Lib.compareBytes, Op.bytesLess]
  | _ :: _, [] => by simp [Lib.compareBytes, Op.bytesLess]
  | a :: x, b :: y => by
    simp only [Lib.compareBytes, Op.bytesLess]
    by_cases h1 : a < b
    · simp [h1]
    · by_cases h2 : b < a
      · have : (a == b) = false := by rw [beq_eq_false_iff_ne]; rintro rfl; exact h1 h2
        simp [h1, h2, this]
      · have hab : a = b := UInt8.le_antisymm (UInt8.not_lt.1 h2) (UInt8.not_lt.1 h1)
        subst hab
        simp [h1, cmp_lt x y]
theorem sLt_cmp (a b : ByteArray) : decide (Lib.compareBytes a.data.toList b.data.toList < 0) = sLt a b := by
  rw [cmp_lt]; simp [sLt, ByteArray.toList_eq]
theorem sLt_lex (a b : ByteArray) : sLt a b = decide (a.data.toList < b.data.toList) := by simp [sLt, ByteArray.toList_eq, bl_lex]

/-! ### lists of strings, of integers -/
def StrE : Enc ByteArray where
  enc x := [.string x]
  w := 1
  len _ := rfl
  pos := by omega
  one x v hv := by simp at hv; subst hv; rfl
def IntE : Enc Int where
  enc x := [.int .i64 x]
  w := 1
  len _ := rfl
  pos := by omega
  one x v hv := by simp at hv; subst hv; rfl
theorem Cells.str {h : Heap} {a : Addr} {x : ByteArray} (c : Cells h a (StrE.enc x)) : hget h a = some (.string x) := by
  have h0 := c 0 _ rfl
  rwa [add_zero] at h0
theorem Cells.int {h : Heap} {a : Addr} {x : Int} (c : Cells h a (IntE.enc x)) : hget h a = some (.int .i64 x) := by
  have h0 := c 0 _ rfl
  rwa [add_zero] at h0

theorem Own.lt {α : Type} {E : Enc α} {T : TypeId} {h : Heap} {s : Sl} {l : List α} (o : Own E T h s l) {b : Nat} (hb : s.blk = some b) : b < h.size := by
  rcases o.row with ⟨rfl, _⟩ | ⟨g, cur, hp, hg, _⟩
  · simp [Sl.blk] at hb
  · simp [Sl.blk, hp] at hb; subst hb; exact blk_lt hg

/-! ### maps of strings -/
def updM (k : ByteArray) (v : Value) : List (ByteArray × Value) → List (ByteArray × Value)
  | [] => [(k, v)]
  | p :: m => if p.1 = k then (k, v) :: m else p :: updM k v m
def lookM (k : ByteArray) (m : List (ByteArray × Value)) : Option Value := (m.find? fun p => decide (p.1 = k)).map (·.2)
def delM (k : ByteArray) (m : List (ByteArray × Value)) : List (ByteArray × Value) := m.filter fun p => !decide (p.1 = k)

theorem lookM_cons (k : ByteArray) (p : ByteArray × Value) (m : List (ByteArray × Value)) : lookM k (p :: m) = if p.1 = k then some p.2 else lookM k m := by
  unfold lookM; rw [List.find?_cons]; by_cases h : p.1 = k <;> simp [h]
theorem lookM_upd (k : ByteArray) (v : Value) (c : ByteArray) : ∀ m, lookM c (updM k v m) = if k = c then some v else lookM c m
  | [] => by unfold updM; rw [lookM_cons]
  | p :: m => by
    unfold updM
    split
    · rename_i h
      rw [lookM_cons, lookM_cons]
      by_cases h2 : k = c <;> simp [h, h2]
    · rename_i h
      rw [lookM_cons, lookM_cons, lookM_upd k v c m]
      by_cases h2 : k = c
      · subst h2; simp [h]
      · simp [h2]

structure MapOf (es : Array MapEntry) (clock : Nat) (m : List (ByteArray × Value)) : Prop where
  same : es.toList.map (fun e => (e.key, e.val)) = m.map fun p => (Value.string p.1, p.2)
  stamped : MapKept.Stamped es clock
  size : es.size ≤ maxLen
  keys : ∀ p ∈ m, p.1.size ≤ maxLen
def MapS (h : Heap) (b : Nat) (m : List (ByteArray × Value)) : Prop := ∃ es clock, h[b]? = some (.map es clock) ∧ MapOf es clock m
theorem MapS.mod {h h' : Heap} {b : Nat} {m : List (ByteArray × Value)} {S : Nat → Prop} (M : MapS h b m) (x : Mod S h h') (hS : ¬ S b) : MapS h' b m := by
  obtain ⟨es, clock, hb, e⟩ := M
  exact ⟨es, clock, x.blk hb hS, e⟩
theorem MapS.lt {h : Heap} {b : Nat} {m : List (ByteArray × Value)} (M : MapS h b m) : b < h.size := by
  obtain ⟨es, clock, hb, e⟩ := M; exact blk_lt hb
theorem MapS.empty {h : Heap} {b c : Nat} (hb : h[b]? = some (.map #[] c)) : MapS h b [] := ⟨#[], c, hb, rfl, MapKept.stamped_empty c, by simp, by simp⟩
theorem MapOf.len {es : Array MapEntry} {clock : Nat} {m : List (ByteArray × Value)} (M : MapOf es clock m) : es.size = m.length := by
  rw [← Array.length_toList]; have := congrArg List.length M.same; simpa using this
theorem MapOf.keysOf {es : Array MapEntry} {clock : Nat} {m : List (ByteArray × Value)} (M : MapOf es clock m) : es.toList.map (·.key) = m.map fun p => Value.string p.1 := by
  have := congrArg (List.map Prod.fst) M.same
  simpa [List.map_map, Function.comp_def] using this
theorem MapOf.nodup {es : Array MapEntry} {clock : Nat} {m : List (ByteArray × Value)} (M : MapOf es clock m) : (m.map (·.1)).Nodup := by
  have h1 := M.stamped.2.2
  rw [M.keysOf] at h1
  have h2 : (m.map fun p => Value.string p.1) = (m.map (·.1)).map Value.string := by simp
  rw [h2] at h1
  exact (List.pairwise_map.1 h1).imp fun hne e => hne (congrArg _ e)

theorem find_spec (k : ByteArray) (v : Value) : ∀ (es : List MapEntry) (m : List (ByteArray × Value)) (i : Nat), (es.map fun e => (e.key, e.val)) = (m.map fun p => (Value.string p.1, p.2)) →
    (Instr.findNow .string (.string k) es i = some none ∧ lookM k m = none ∧ updM k v m = m ++ [(k, v)] ∧ delM k m = m ∧ ∀ e ∈ es, e.key ≠ .string k) ∨
    ∃ j u, Instr.findNow .string (.string k) es i = some (some (i + j, u)) ∧ lookM k m = some u ∧ (∃ e, es[j]? = some e ∧ e.key = .string k) ∧ ((es.modify j fun e => { e with key := .string k, val := v }).map fun e => (e.key, e.val)) = (updM k v m).map (fun p => (Value.string p.1, p.2)) ∧
      ((m.map (·.1)).Nodup → ((es.eraseIdx j).map fun e => (e.key, e.val)) = (delM k m).map fun p => (Value.string p.1, p.2))
  | [], [], i, _ => .inl ⟨rfl, rfl, rfl, rfl, by simp⟩
  | [], _ :: _, _, h => by simp at h
  | _ :: _, [], _, h => by simp at h
  | e :: es, p :: m, i, h => by
    simp only [List.map_cons, List.cons.injEq, Prod.mk.injEq] at h
    obtain ⟨⟨h1, h2⟩, h3⟩ := h
    have hs : Instr.sameNow .string (.string k) e.key = some (decide (k = p.1)) := by
      rw [h1]
      show some (k == p.1) = _
      congr 1
      rw [Bool.eq_iff_iff, MapKept.bytes_beq]; simp
    by_cases hk : p.1 = k
    · refine .inr ⟨0, e.val, ?_, ?_, ⟨e, rfl, by rw [h1, hk]⟩, ?_, ?_⟩
      · unfold Instr.findNow; rw [hs, decide_eq_true hk.symm]; rfl
      · rw [lookM_cons, if_pos hk, h2]
      · unfold updM; rw [if_pos hk]; simp [h3]
      · intro hnd
        have hnd := List.nodup_cons.1 hnd
        simp only [List.eraseIdx_zero, List.tail_cons]
        rw [h3]
        congr 1
        unfold delM
        rw [List.filter_cons]
        simp only [hk, decide_true, Bool.not_true, Bool.false_eq_true, if_false]
        refine (List.filter_eq_self.2 fun q hq => ?_).symm
        simp only [Bool.not_eq_true', decide_eq_false_iff_not]
        rintro rfl
        exact hnd.1 (by show p.1 ∈ _; rw [hk]; exact List.mem_map_of_mem (f := Prod.fst) hq)
    · rcases find_spec k v es m (i + 1) h3 with ⟨a1, a2, a3, a6, a7⟩ | ⟨j, u, a1, a2, ⟨e', a3, a4⟩, a5, a6⟩
      · refine .inl ⟨?_, ?_, ?_, ?_, ?_⟩
        · unfold Instr.findNow; rw [hs, decide_eq_false (fun e => hk e.symm)]; exact a1
        · rw [lookM_cons, if_neg hk]; exact a2
        · unfold updM; rw [if_neg hk, a3]; rfl
        · unfold delM at a6 ⊢; rw [List.filter_cons]; simp [hk]; simpa using a6
        · intro x hx
          rcases List.mem_cons.1 hx with rfl | hx
          · rw [h1]; intro e; injection e with e; exact hk e
          · exact a7 x hx
      · refine .inr ⟨j + 1, u, ?_, ?_, ⟨e', by simpa using a3, a4⟩, ?_, ?_⟩
        · unfold Instr.findNow; rw [hs, decide_eq_false (fun e => hk e.symm)]; rw [show i + (j + 1) = i + 1 + j by omega]; exact a1
        · rw [lookM_cons, if_neg hk]; exact a2
        · unfold updM; rw [if_neg hk]; simp [h1, h2, a5]
        · intro hnd
          have hnd := List.nodup_cons.1 hnd
          have := a6 hnd.2
          unfold delM at this ⊢
          rw [List.filter_cons]
          simp [hk, h1, h2]
          simpa using this

section
variable {P : Program}
theorem checkKey_str {kt : TypeId} (hk : P.underlying kt = some .string) (e : Bool) (n : Nat) (k : ByteArray) (w : World) : (Instr.checkKey e (n + 1) kt (.string k)).run P w = .ok () w := by
  simp [Instr.checkKey, run_und hk]

theorem lookup_ok {A : Amb} {t kt et : TypeId} {z : Value} (ht : P.underlying t = some (.map kt et)) (hk : P.underlying kt = some .string) (hz : (zeroValue et).calc P = some z) {h : Heap} {b : Nat} {m : List (ByteArray × Value)} {k : ByteArray} {K : Value → Heap → Prop}
    (M : MapS h b m) (H : K ((lookM k m).getD z) h) : RunK A P (Instr.lookup t (.map (some b)) (.string k) false) h K := by
  intro n
  refine ⟨_, h, n, ?_, H⟩
  obtain ⟨es, clock, hb, e⟩ := M
  have hg := MapKept.run_getObj_map (P := P) (w := A.at h n) (r := b) hb
  rcases find_spec k z es.toList m 0 e.same with ⟨a1, a2, _⟩ | ⟨j, u, a1, a2, _, _⟩
  · simp [Instr.lookup, run_und ht, hg, checkKey_str hk, Instr.findKey, run_und hk, a1, a2, Result.andThen, calc_sound hz]
  · simp [Instr.lookup, run_und ht, hg, checkKey_str hk, Instr.findKey, run_und hk, a1, a2, Result.andThen]

theorem updM_keys {k : ByteArray} {v : Value} : ∀ {m : List (ByteArray × Value)} {p : ByteArray × Value}, p ∈ updM k v m → p.1 = k ∨ p ∈ m
  | [], p, h => by simp [updM] at h; exact .inl (by rw [h])
  | q :: m, p, h => by
    unfold updM at h
    split at h
    · rcases List.mem_cons.1 h with rfl | h
      · exact .inl rfl
      · exact .inr (List.mem_cons_of_mem _ h)
    · rcases List.mem_cons.1 h with rfl | h
      · exact .inr List.mem_cons_self
      · exact (updM_keys h).imp id (List.mem_cons_of_mem _)

theorem update_ok {A : Amb} {t kt et : TypeId} (ht : P.underlying t = some (.map kt et)) (hk : P.underlying kt = some .string) {h : Heap} {b : Nat} {m : List (ByteArray × Value)} {k : ByteArray} {v : Value} {K : Heap → Prop}
    (M : MapS h b m) (hks : k.size ≤ maxLen) (hml : m.length < maxLen) (H : ∀ h', MapS h' b (updM k v m) → Mod (fun c => c = b) h h' → h'.size = h.size → K h') : RunU A P (Instr.mapUpdate t (.map (some b)) (.string k) v) h K := by
  intro n
  obtain ⟨es, clock, hb, e⟩ := M
  have hlt := blk_lt hb
  have hg := MapKept.run_getObj_map (P := P) (w := A.at h n) (r := b) hb
  have hst : ∀ o, (setObj b o).run P (A.at h n) = .ok () (A.at (h.setIfInBounds b o) n) := fun o => MapKept.run_setObj_map (P := P) (w := A.at h n) o hb
  have hkeys : ∀ p ∈ updM k v m, p.1.size ≤ maxLen := fun p hp => (updM_keys hp).elim (fun h => by rw [h]; exact hks) (e.keys p)
  have hlen := e.len
  rcases find_spec k v es.toList m 0 e.same with ⟨a1, a2, a3, _, a7⟩ | ⟨j, u, a1, a2, ⟨e', a3, a4⟩, a5, _⟩
  · refine ⟨h.setIfInBounds b (.map (es.push { key := .string k, val := v, born := clock }) (clock + 1)), n, ?_, H _ ⟨_, _, setObj_self hlt, ?_, MapKept.stamped_push e.stamped a7, by simp; omega, hkeys⟩ (Mod.setObj rfl) (by simp)⟩
    · simp [Instr.mapUpdate, run_und ht, hg, checkKey_str hk, Instr.findKey, run_und hk, a1, Result.andThen, hst]
    · rw [a3]; simp [e.same]
  · have hj : es[j]? = some e' := by simpa using a3
    refine ⟨h.setIfInBounds b (.map (es.modify j fun e => { e with key := .string k, val := v }) clock), n, ?_, H _ ⟨_, _, setObj_self hlt, ?_, MapKept.stamped_modify e.stamped _ _ (fun _ _ => rfl) (fun x _ hx => ?_), by simpa using e.size, hkeys⟩ (Mod.setObj rfl) (by simp)⟩
    · have hstay : ∀ w, (Instr.keyThatStays (.string k) (.string k)).run P w = .ok (.string k) w := fun w => by
        have hkk : (k == k) = true := (MapKept.bytes_beq k k).2 rfl
        simp [Instr.keyThatStays, Instr.sameBits, hkk]
      simp [Instr.mapUpdate, run_und ht, hg, checkKey_str hk, Instr.findKey, run_und hk, a1, hj, a4, hstay, Result.andThen, hst]
    · rw [Array.toList_modify]; exact a5
    · rw [hj] at hx; cases hx; exact a4.symm

theorem delete_ok {A : Amb} {t kt et ty : TypeId} (ht : P.underlying t = some (.map kt et)) (hk : P.underlying kt = some .string) {h : Heap} {b : Nat} {m : List (ByteArray × Value)} {k : ByteArray} {K : Value → Heap → Prop}
    (M : MapS h b m) (H : ∀ h', MapS h' b (delM k m) → Mod (fun c => c = b) h h' → h'.size = h.size → K (.tuple #[]) h') : RunK A P (Builtin.delete_ #[t, kt] ty #[.map (some b), .string k]) h K := by
  intro n
  obtain ⟨es, clock, hb, e⟩ := M
  have hlt := blk_lt hb
  have hg := MapKept.run_getObj_map (P := P) (w := A.at h n) (r := b) hb
  have hst : ∀ o, (setObj b o).run P (A.at h n) = .ok () (A.at (h.setIfInBounds b o) n) := fun o => MapKept.run_setObj_map (P := P) (w := A.at h n) o hb
  have hkeys : ∀ p ∈ delM k m, p.1.size ≤ maxLen := fun p hp => e.keys p (List.mem_filter.1 hp).1
  rcases find_spec k (.bool true) es.toList m 0 e.same with ⟨a1, a2, _, a6, _⟩ | ⟨j, u, a1, a2, ⟨e', a3, a4⟩, _, a6⟩
  · refine ⟨_, h.setIfInBounds b (.map es clock), n, ?_, H _ ⟨_, _, setObj_self hlt, by rw [a6]; exact e.same, e.stamped, e.size, hkeys⟩ (Mod.setObj rfl) (by simp)⟩
    simp [Builtin.delete_, run_und ht, hg, checkKey_str hk, Instr.findKey, run_und hk, a1, Result.andThen, hst]
  · have hj : es[j]? = some e' := by simpa using a3
    refine ⟨_, h.setIfInBounds b (.map (es.eraseIdxIfInBounds j) clock), n, ?_, H _ ⟨_, _, setObj_self hlt, ?_, MapKept.stamped_erase e.stamped _, ?_, hkeys⟩ (Mod.setObj rfl) (by simp)⟩
    · simp [Builtin.delete_, run_und ht, hg, checkKey_str hk, Instr.findKey, run_und hk, a1, Result.andThen, hst]
    · have hjl := (Array.getElem?_eq_some_iff.1 hj).1
      rw [Array.eraseIdxIfInBounds, dif_pos hjl, Array.toList_eraseIdx]
      exact a6 e.nodup
    · have : (es.eraseIdxIfInBounds j).size ≤ es.size := by
        unfold Array.eraseIdxIfInBounds; split <;> simp
      have := e.size; omega

theorem mapLen_ok {A : Amb} {t kt et ty : TypeId} (ht : P.underlying t = some (.map kt et)) {h : Heap} {b : Nat} {m : List (ByteArray × Value)} {K : Value → Heap → Prop} (M : MapS h b m) (H : K (.int .i64 (m.length : Int)) h) : RunK A P (Builtin.len_ #[t] ty #[.map (some b)]) h K := by
  intro n
  obtain ⟨es, clock, hb, e⟩ := M
  have hg := MapKept.run_getObj_map (P := P) (w := A.at h n) (r := b) hb
  refine ⟨_, h, n, ?_, H⟩
  simp [Builtin.len_, run_und ht, hg, e.len, goInt]
end

/-! ### a map's keys, sorted -/
def anyR (_ : Value) : Option (DataW Unit × List MemPlace) := some (.nil, [])

theorem ins_perm {H : Type} (x : Lit × DataW H) : ∀ l : List (Lit × DataW H), (DataW.insert x l).Perm (x :: l)
  | [] => by simp [DataW.insert]
  | y :: r => by
    unfold DataW.insert
    split
    · exact List.Perm.refl _
    · exact ((ins_perm x r).cons y).trans (List.Perm.swap x y r)
theorem sorted_perm {H : Type} : ∀ l : List (Lit × DataW H), (l.foldr DataW.insert []).Perm l
  | [] => List.Perm.refl _
  | x :: r => (ins_perm x _).trans ((sorted_perm r).cons x)

theorem keys_owned {P : Program} {kt : TypeId} (hk : P.underlying kt = some .string) {w : World} {b : Nat} {m : List (ByteArray × Value)} (M : MapS w.heap b m) :
    ∃ D : DataW Unit, w.ownsMap P kt anyR b m.length D ∧ (strKeys D).Perm (m.map fun p => p.1.data.toList) ∧ Maps.size D = m.length := by
  obtain ⟨es, clock, hb, e⟩ := M
  have hrd : ∀ x ∈ es.toList, ∃ s : ByteArray, x.key = .string s ∧ WideElems.rd P kt anyR x = some (.string s.data.toList, .nil) := by
    intro x hx
    have : x.key ∈ m.map fun p => Value.string p.1 := by rw [← e.keysOf]; exact List.mem_map_of_mem hx
    obtain ⟨p, hp, hpx⟩ := List.mem_map.1 this
    refine ⟨p.1, hpx.symm, ?_⟩
    simp [WideElems.rd, ← hpx, Go.WideMaps.keyOf_string_mk hk (e.keys p hp), anyR]
  refine ⟨_, ⟨es, clock, hb, ⟨e.size, e.stamped, fun x hx => ?_⟩, by rw [e.len]; exact Nat.le_refl _, rfl⟩, ?_, ?_⟩
  · obtain ⟨s, _, h2⟩ := hrd x hx; exact ⟨_, h2⟩
  · show ((es.toList.map (WideElems.rg P kt anyR)).foldr DataW.insert [] |>.map fun p => strOf p.1).Perm _
    refine ((sorted_perm _).map _).trans ?_
    have h1 : (es.toList.map (WideElems.rg P kt anyR)).map (fun p => strOf p.1) = (es.toList.map (·.key)).map fun v => match v with | .string s => s.data.toList | _ => [] := by
      rw [List.map_map, List.map_map]
      refine List.map_congr_left fun x hx => ?_
      obtain ⟨s, h1, h2⟩ := hrd x hx
      simp [Function.comp, WideElems.rg, h2, h1, strOf]
    rw [h1, e.keysOf, List.map_map]
    exact List.Perm.of_eq (List.map_congr_left fun x _ => rfl)
  · show ((es.toList.map (WideElems.rg P kt anyR)).foldr DataW.insert []).length = _
    rw [(sorted_perm _).length_eq]; simp [e.len]

def SortedS (l : List ByteArray) : Prop := l.Pairwise fun a b => sLt a b = true

theorem sort_names {ss : List (List UInt8)} {l : List ByteArray} (hs : SortedS l) (hp : ss.Perm (l.map fun x => x.data.toList)) : (ss.mergeSort fun x y => decide (x ≤ y)) = l.map fun x => x.data.toList := by
  have e := mergeSort_of_perm hp
  have h2 : (l.map fun x => x.data.toList).mergeSort leB = l.map fun x => x.data.toList := by
    refine List.mergeSort_of_pairwise ?_
    refine List.pairwise_map.2 (hs.imp fun {a b} hab => ?_)
    rw [sLt_lex] at hab
    simp only [decide_eq_true_eq] at hab ⊢
    exact List.le_of_lt hab
  exact e.trans h2
theorem enc_names (l : List ByteArray) : (l.map fun x => x.data.toList).map Proofs.encStr = l.flatMap StrE.enc := by
  induction l with
  | nil => rfl
  | cons x r ih => rw [List.map_cons, List.map_cons, ih, List.flatMap_cons]; rfl
end Go.Lf

