/-
  Plain law: a key's hash; places on a ring; the least of hosts (chapters 6 and 11).
-/
import Derived.Test.YtcaiammecilkeaaLfU6
import Derived.Test.YtcaiammecilkeaaLfU1
set_option maxRecDepth 100000
set_option linter.unusedVariables false
set_option linter.unusedSimpArgs false
namespace Go.Lf
open Go

/-! ### integers without a sign -/
theorem wrap_u32 (n : Nat) : IntKind.wrap .u32 (n : Int) = ((n % 4294967296 : Nat) : Int) := by
  simp [IntKind.wrap, IntKind.bits, IntKind.signed]
theorem wrap_u64 (n : Nat) : IntKind.wrap .u64 (n : Int) = ((n % 18446744073709551616 : Nat) : Int) := by
  simp [IntKind.wrap, IntKind.bits, IntKind.signed]
theorem xor_u32 {a b : Nat} (ha : a < 4294967296) (hb : b < 4294967296) : bXor .u32 (a : Int) (b : Int) = ((a ^^^ b : Nat) : Int) := by
  have h : a ^^^ b < 2 ^ 32 := Nat.xor_lt_two_pow (by simpa using ha) (by simpa using hb)
  unfold bXor
  have e : (BitVec.ofInt (IntKind.bits .u32) (a : Int) ^^^ BitVec.ofInt (IntKind.bits .u32) (b : Int)).toNat = a ^^^ b := by
    show (BitVec.ofInt 32 (a : Int) ^^^ BitVec.ofInt 32 (b : Int)).toNat = a ^^^ b
    rw [BitVec.ofInt_natCast, BitVec.ofInt_natCast, BitVec.toNat_xor, BitVec.toNat_ofNat, BitVec.toNat_ofNat, Nat.mod_eq_of_lt (by simpa using ha), Nat.mod_eq_of_lt (by simpa using hb)]
  rw [e, wrap_u32, Nat.mod_eq_of_lt (by simpa using h)]
theorem or_u32 {a b : Nat} (ha : a < 4294967296) (hb : b < 4294967296) : bOr .u32 (a : Int) (b : Int) = ((a ||| b : Nat) : Int) := by
  have h : a ||| b < 2 ^ 32 := Nat.or_lt_two_pow (by simpa using ha) (by simpa using hb)
  unfold bOr
  have e : (BitVec.ofInt (IntKind.bits .u32) (a : Int) ||| BitVec.ofInt (IntKind.bits .u32) (b : Int)).toNat = a ||| b := by
    show (BitVec.ofInt 32 (a : Int) ||| BitVec.ofInt 32 (b : Int)).toNat = a ||| b
    rw [BitVec.ofInt_natCast, BitVec.ofInt_natCast, BitVec.toNat_or, BitVec.toNat_ofNat, BitVec.toNat_ofNat, Nat.mod_eq_of_lt (by simpa using ha), Nat.mod_eq_of_lt (by simpa using hb)]
  rw [e, wrap_u32, Nat.mod_eq_of_lt (by simpa using h)]
theorem xor_u64 {a b : Nat} (ha : a < 18446744073709551616) (hb : b < 18446744073709551616) : bXor .u64 (a : Int) (b : Int) = ((a ^^^ b : Nat) : Int) := by
  have h : a ^^^ b < 2 ^ 64 := Nat.xor_lt_two_pow (by simpa using ha) (by simpa using hb)
  unfold bXor
  have e : (BitVec.ofInt (IntKind.bits .u64) (a : Int) ^^^ BitVec.ofInt (IntKind.bits .u64) (b : Int)).toNat = a ^^^ b := by
    show (BitVec.ofInt 64 (a : Int) ^^^ BitVec.ofInt 64 (b : Int)).toNat = a ^^^ b
    rw [BitVec.ofInt_natCast, BitVec.ofInt_natCast, BitVec.toNat_xor, BitVec.toNat_ofNat, BitVec.toNat_ofNat, Nat.mod_eq_of_lt (by simpa using ha), Nat.mod_eq_of_lt (by simpa using hb)]
  rw [e, wrap_u64, Nat.mod_eq_of_lt (by simpa using h)]
theorem or_u64 {a b : Nat} (ha : a < 18446744073709551616) (hb : b < 18446744073709551616) : bOr .u64 (a : Int) (b : Int) = ((a ||| b : Nat) : Int) := by
  have h : a ||| b < 2 ^ 64 := Nat.or_lt_two_pow (by simpa using ha) (by simpa using hb)
  unfold bOr
  have e : (BitVec.ofInt (IntKind.bits .u64) (a : Int) ||| BitVec.ofInt (IntKind.bits .u64) (b : Int)).toNat = a ||| b := by
    show (BitVec.ofInt 64 (a : Int) ||| BitVec.ofInt 64 (b : Int)).toNat = a ||| b
    rw [BitVec.ofInt_natCast, BitVec.ofInt_natCast, BitVec.toNat_or, BitVec.toNat_ofNat, BitVec.toNat_ofNat, Nat.mod_eq_of_lt (by simpa using ha), Nat.mod_eq_of_lt (by simpa using hb)]
  rw [e, wrap_u64, Nat.mod_eq_of_lt (by simpa using h)]
/-- the lowest 32 bits -/
theorem low_u64 {a : Nat} (ha : a < 18446744073709551616) : bAnd .u64 (a : Int) (4294967295 : Int) = ((a % 4294967296 : Nat) : Int) := by
  unfold bAnd
  have e : (BitVec.ofInt (IntKind.bits .u64) (a : Int) &&& BitVec.ofInt (IntKind.bits .u64) (4294967295 : Int)).toNat = a % 4294967296 := by
    show (BitVec.ofInt 64 (a : Int) &&& BitVec.ofInt 64 ((4294967295 : Nat) : Int)).toNat = a % 4294967296
    rw [BitVec.ofInt_natCast, BitVec.ofInt_natCast, BitVec.toNat_and, BitVec.toNat_ofNat, BitVec.toNat_ofNat, Nat.mod_eq_of_lt (by simpa using ha)]
    have := Nat.and_two_pow_sub_one_eq_mod a 32
    simpa using this
  rw [e, wrap_u64, Nat.mod_eq_of_lt (by omega)]

theorem mulc (n k : Nat) : ((n : Nat) : Int) * ((k : Nat) : Int) = ((n * k : Nat) : Int) := (Int.natCast_mul n k).symm
/-! ### a key's hash -/
def hA (a c : Nat) : Nat := ((a ^^^ c) * 16777619) % 4294967296
def hX (b c : Nat) : Nat := ((b + c) % 4294967296 * 2246822507) % 4294967296
def hB (b c : Nat) : Nat := hX b c ^^^ (hX b c / 8192)
def hashL (l : List UInt8) : Nat × Nat := l.foldl (fun s c => (hA s.1 c.toNat, hB s.2 c.toNat)) (2166136261, 2538058380)
def hash1 (k : ByteArray) : Nat := (hashL k.data.toList).1
def hash2 (k : ByteArray) : Nat := (hashL k.data.toList).2 ||| 1
theorem hA_lt (a c : Nat) : hA a c < 4294967296 := Nat.mod_lt _ (by decide)
theorem hX_lt (b c : Nat) : hX b c < 4294967296 := Nat.mod_lt _ (by decide)
theorem hB_lt (b c : Nat) : hB b c < 4294967296 := by
  have h1 := hX_lt b c
  have : hB b c < 2 ^ 32 := Nat.xor_lt_two_pow (by simpa using h1) (by have : hX b c / 8192 ≤ hX b c := Nat.div_le_self _ _; omega)
  simpa using this
theorem hashL_snoc (l : List UInt8) (c : UInt8) : hashL (l ++ [c]) = (hA (hashL l).1 c.toNat, hB (hashL l).2 c.toNat) := by simp [hashL]
theorem hashL_lt (l : List UInt8) : (hashL l).1 < 4294967296 ∧ (hashL l).2 < 4294967296 := by
  rw [← List.reverse_reverse l]
  cases l.reverse with
  | nil => decide
  | cons c r => rw [List.reverse_cons, hashL_snoc]; exact ⟨hA_lt _ _, hB_lt _ _⟩
theorem hash2_lt (k : ByteArray) : hash2 k < 4294967296 := by
  have : hash2 k < 2 ^ 32 := Nat.or_lt_two_pow (by have := (hashL_lt k.data.toList).2; simpa using this) (by decide)
  simpa using this
theorem hash1_lt (k : ByteArray) : hash1 k < 4294967296 := (hashL_lt _).1

theorem stepA {a c : Nat} (ha : a < 4294967296) (hc : c < 256) : IntKind.wrap .u32 ((bXor .u32 (a : Int) (IntKind.wrap .u32 (c : Int))) * (16777619 : Int)) = ((hA a c : Nat) : Int) := by
  rw [wrap_u32, Nat.mod_eq_of_lt (by omega), xor_u32 ha (by omega), show ((a ^^^ c : Nat) : Int) * (16777619 : Int) = (((a ^^^ c) * 16777619 : Nat) : Int) from mulc _ 16777619, wrap_u32]; rfl
theorem stepX {b c : Nat} (hb : b < 4294967296) (hc : c < 256) : IntKind.wrap .u32 ((IntKind.wrap .u32 ((b : Int) + (IntKind.wrap .u32 (c : Int)))) * (2246822507 : Int)) = ((hX b c : Nat) : Int) := by
  rw [wrap_u32 c, Nat.mod_eq_of_lt (by omega), show ((b : Int) + (c : Int)) = ((b + c : Nat) : Int) by push_cast; rfl, wrap_u32, show (((b + c) % 4294967296 : Nat) : Int) * (2246822507 : Int) = (((b + c) % 4294967296 * 2246822507 : Nat) : Int) from mulc _ 2246822507, wrap_u32]; rfl
theorem fdiv_nat (n k : Nat) : ((n : Nat) : Int).fdiv ((2 : Int) ^ k) = ((n / 2 ^ k : Nat) : Int) := by
  rw [Int.fdiv_eq_ediv_of_nonneg _ (by have := Int.pow_pos (n := 2) (m := k) (by decide); omega)]
  push_cast; rfl
theorem stepB {b c : Nat} (hb : b < 4294967296) (hc : c < 256) : bXor .u32 (IntKind.wrap .u32 ((IntKind.wrap .u32 ((b : Int) + (IntKind.wrap .u32 (c : Int)))) * (2246822507 : Int))) ((IntKind.wrap .u32 ((IntKind.wrap .u32 ((b : Int) + (IntKind.wrap .u32 (c : Int)))) * (2246822507 : Int))).fdiv ((2 : Int) ^ (13 : Nat))) = ((hB b c : Nat) : Int) := by
  have h1 := hX_lt b c
  have h2 : hX b c / 2 ^ 13 ≤ hX b c := Nat.div_le_self _ _
  rw [stepX hb hc, fdiv_nat, xor_u32 h1 (by omega)]; rfl
theorem stepA' {a c : Nat} (ha : a < 4294967296) (hc : c < 256) : bAnd .u64 (IntKind.wrap .u64 ((bXor .u64 (a : Int) (IntKind.wrap .u64 (c : Int))) * (16777619 : Int))) (4294967295 : Int) = ((hA a c : Nat) : Int) := by
  have h : a ^^^ c < 2 ^ 32 := Nat.xor_lt_two_pow (by simpa using ha) (by omega)
  rw [wrap_u64 c, Nat.mod_eq_of_lt (by omega), xor_u64 (by omega) (by omega), show ((a ^^^ c : Nat) : Int) * (16777619 : Int) = (((a ^^^ c) * 16777619 : Nat) : Int) from mulc _ 16777619, wrap_u64, Nat.mod_eq_of_lt (by omega), low_u64 (by omega)]; rfl
theorem stepX' {b c : Nat} (hb : b < 4294967296) (hc : c < 256) : bAnd .u64 (IntKind.wrap .u64 ((bAnd .u64 (IntKind.wrap .u64 ((b : Int) + (IntKind.wrap .u64 (c : Int)))) (4294967295 : Int)) * (2246822507 : Int))) (4294967295 : Int) = ((hX b c : Nat) : Int) := by
  rw [wrap_u64 c, Nat.mod_eq_of_lt (by omega), show ((b : Int) + (c : Int)) = ((b + c : Nat) : Int) by push_cast; rfl, wrap_u64, Nat.mod_eq_of_lt (by omega), low_u64 (by omega), show (((b + c) % 4294967296 : Nat) : Int) * (2246822507 : Int) = (((b + c) % 4294967296 * 2246822507 : Nat) : Int) from mulc _ 2246822507, wrap_u64, Nat.mod_eq_of_lt (by omega), low_u64 (by omega)]; rfl
theorem stepB' {b c : Nat} (hb : b < 4294967296) (hc : c < 256) : bXor .u64 (bAnd .u64 (IntKind.wrap .u64 ((bAnd .u64 (IntKind.wrap .u64 ((b : Int) + (IntKind.wrap .u64 (c : Int)))) (4294967295 : Int)) * (2246822507 : Int))) (4294967295 : Int)) (IntKind.wrap .u64 ((bAnd .u64 (IntKind.wrap .u64 ((bAnd .u64 (IntKind.wrap .u64 ((b : Int) + (IntKind.wrap .u64 (c : Int)))) (4294967295 : Int)) * (2246822507 : Int))) (4294967295 : Int)).tdiv (8192 : Int))) = ((hB b c : Nat) : Int) := by
  have h1 := hX_lt b c
  have h2 : hX b c / 8192 ≤ hX b c := Nat.div_le_self _ _
  rw [stepX' hb hc, show ((hX b c : Nat) : Int).tdiv (8192 : Int) = ((hX b c / 8192 : Nat) : Int) from (Int.ofNat_tdiv (hX b c) 8192).symm, wrap_u64, Nat.mod_eq_of_lt (by omega), xor_u64 (by omega) (by omega)]; rfl

theorem sAt_nat {s : ByteArray} {i : Nat} {c : UInt8} (hc : s.data.toList[i]? = some c) : sAt s ((i : Nat) : Int) = ((c.toNat : Nat) : Int) := by
  have hi : i < s.data.toList.length := (List.getElem?_eq_some_iff.1 hc).1
  have hi2 : i < s.size := by simpa using hi
  unfold sAt
  have e : ((i : Nat) : Int).toNat = i := by omega
  rw [e]
  have h2 : s[i]? = some c := by
    rw [getElem?_pos s i hi2]
    congr 1
    have h3 := (List.getElem?_eq_some_iff.1 hc).2
    rw [← h3]
    rw [Array.getElem_toList]
    rfl
  rw [h2]; rfl

/-! ### places -/
def stepsN (k : ByteArray) : Nat := (hash1 k ^^^ (hash2 k / 128)) % 4096
theorem stepsN_lt (k : ByteArray) : stepsN k < 4096 := Nat.mod_lt _ (by decide)
def px (t : Nat) : Int := if t < 1024 then 1024 - (t : Int) else if t < 2048 then 1024 - (t : Int) else if t < 3072 then (t : Int) - 3072 else (t : Int) - 3072
def py (t : Nat) : Int := if t < 1024 then (t : Int) else if t < 2048 then 2048 - (t : Int) else if t < 3072 then 2048 - (t : Int) else (t : Int) - 4096
theorem place_abs {t : Nat} (ht : t < 4096) : max (px t) (-(px t)) + max (py t) (-(py t)) = 1024 := by unfold px py; split <;> (try split) <;> (try split) <;> omega
theorem place_le {t : Nat} (ht : t < 4096) : -1024 ≤ px t ∧ px t ≤ 1024 ∧ -1024 ≤ py t ∧ py t ≤ 1024 := by unfold px py; split <;> (try split) <;> (try split) <;> omega
theorem place_inj {s t : Nat} (hs : s < 4096) (ht : t < 4096) (h1 : px s = px t) (h2 : py s = py t) : s = t := by
  unfold px at h1
  unfold py at h2
  (repeat' split at h1) <;> (repeat' split at h2) <;> omega
/-- a quarter on -/
theorem place_on {t : Nat} (ht : t < 3072) : px (t + 1024) = -(py t) ∧ py (t + 1024) = px t := by unfold px py; (repeat' split) <;> omega
theorem place_head {t : Nat} (ht : t < 4096) : (px t > 0 ∧ py t ≥ 0) ↔ t < 1024 := by unfold px py; (repeat' split) <;> omega
theorem place_first {t : Nat} (ht : t < 1024) : py t = t ∧ px t = 1024 - t := by unfold px py; rw [if_pos ht, if_pos ht]; exact ⟨rfl, rfl⟩

def CP (p : Nat × Nat) (t : Nat) : Prop := t < 4096 ∧ VR p.1 (px t) ∧ VR p.2 (py t)
def turnN (s t : Nat) : Nat := (t + 4096 - s) % 4096
theorem turnN_lt (s t : Nat) : turnN s t < 4096 := Nat.mod_lt _ (by decide)

/-! ### the least -/
def distN (key a : ByteArray) : Nat := turnN (stepsN key) (stepsN a)
def ltH (key a b : ByteArray) : Bool := decide (distN key a < distN key b) || (decide (distN key a = distN key b) && sLt a b)
def ownerN (key : ByteArray) : List ByteArray → ByteArray
  | [] => ⟨#[]⟩
  | x :: l => l.foldl (fun m y => if ltH key y m then y else m) x
theorem ltH_irrefl (key a : ByteArray) : ltH key a a = false := by simp [ltH, sLt_irrefl]
theorem ltH_trans {key a b c : ByteArray} (h1 : ltH key a b = true) (h2 : ltH key b c = true) : ltH key a c = true := by
  simp only [ltH, Bool.or_eq_true, Bool.and_eq_true, decide_eq_true_eq] at *
  rcases h1 with h1 | ⟨h1, h1'⟩
  · rcases h2 with h2 | ⟨h2, h2'⟩
    · exact .inl (by omega)
    · exact .inl (by omega)
  · rcases h2 with h2 | ⟨h2, h2'⟩
    · exact .inl (by omega)
    · exact .inr ⟨by omega, sLt_trans h1' h2'⟩
theorem ltH_tri {key a b : ByteArray} (h1 : ltH key a b = false) (h2 : ltH key b a = false) : a = b := by
  simp only [ltH, Bool.or_eq_false_iff, Bool.and_eq_false_iff, decide_eq_false_iff_not] at *
  have e : distN key a = distN key b := by omega
  exact sLt_tri (h1.2.resolve_left (by omega)) (h2.2.resolve_left (by omega))
theorem foldl_least (key : ByteArray) : ∀ (l : List ByteArray) (x : ByteArray), (l.foldl (fun m y => if ltH key y m then y else m) x = x ∨ l.foldl (fun m y => if ltH key y m then y else m) x ∈ l) ∧
    ltH key x (l.foldl (fun m y => if ltH key y m then y else m) x) = false ∧ ∀ y ∈ l, ltH key y (l.foldl (fun m y => if ltH key y m then y else m) x) = false
  | [], x => ⟨.inl rfl, ltH_irrefl key x, by simp⟩
  | z :: l, x => by
    rw [List.foldl_cons]
    obtain ⟨h1, h2, h3⟩ := foldl_least key l (if ltH key z x then z else x)
    generalize l.foldl (fun m y => if ltH key y m then y else m) (if ltH key z x then z else x) = r at *
    have hle : ∀ {p q : ByteArray}, ltH key p q = false → ltH key q r = false → ltH key p r = false := fun {p q} a b => by
      cases h : ltH key p r
      · rfl
      · cases hqp : ltH key q p
        · have := ltH_tri a hqp; subst this; rw [b] at h; cases h
        · have := ltH_trans hqp h; rw [b] at this; cases this
    by_cases hz : ltH key z x = true
    · rw [if_pos hz] at h1 h2
      refine ⟨.inr (h1.elim (fun e => by rw [e]; exact List.mem_cons_self) (List.mem_cons_of_mem _)), ?_, fun y hy => ?_⟩
      · refine hle (q := z) ?_ h2
        cases h : ltH key x z
        · rfl
        · have := ltH_trans hz h; rw [ltH_irrefl] at this; cases this
      · rcases List.mem_cons.1 hy with rfl | hy
        · exact h2
        · exact h3 y hy
    · rw [if_neg hz] at h1 h2
      refine ⟨h1.elim .inl fun h => .inr (List.mem_cons_of_mem _ h), h2, fun y hy => ?_⟩
      rcases List.mem_cons.1 hy with rfl | hy
      · exact hle (by simpa using hz) h2
      · exact h3 y hy
theorem owner_least {key : ByteArray} {l : List ByteArray} (hl : l ≠ []) : ownerN key l ∈ l ∧ ∀ y ∈ l, ltH key y (ownerN key l) = false := by
  cases l with
  | nil => exact absurd rfl hl
  | cons x l =>
    obtain ⟨h1, h2, h3⟩ := foldl_least key l x
    refine ⟨h1.elim (fun e => ?_) fun h => List.mem_cons_of_mem _ h, fun y hy => ?_⟩
    · show l.foldl _ x ∈ x :: l
      rw [e]; exact List.mem_cons_self
    · rcases List.mem_cons.1 hy with rfl | hy
      · exact h2
      · exact h3 y hy
theorem owner_uniq {key x : ByteArray} {l : List ByteArray} (hx : x ∈ l) (h : ∀ y ∈ l, ltH key y x = false) : ownerN key l = x := by
  obtain ⟨h1, h2⟩ := owner_least (key := key) (l := l) (by rintro rfl; cases hx)
  exact ltH_tri (h _ h1) (h2 _ hx)
theorem owner_same {key : ByteArray} {l m : List ByteArray} (h : ∀ x, x ∈ l ↔ x ∈ m) : ownerN key l = ownerN key m := by
  cases l with
  | nil => cases m with
    | nil => rfl
    | cons y m => have := (h y).2 List.mem_cons_self; cases this
  | cons x l =>
    obtain ⟨h1, h2⟩ := owner_least (key := key) (l := x :: l) (by simp)
    exact (owner_uniq ((h _).1 h1) fun y hy => h2 y ((h y).2 hy)).symm
end Go.Lf
