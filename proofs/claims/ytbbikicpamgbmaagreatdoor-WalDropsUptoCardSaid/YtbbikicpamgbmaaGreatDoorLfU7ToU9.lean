/-
  Plain law: a key's hash; places on a ring; the least of hosts (chapters 6 and 11).
-/
import Derived.Test.YtbbikicpamgbmaaGreatDoorLfU5ToU1
import Derived.Laws.BytesString
import Derived.Laws.BytesArg
set_option maxRecDepth 100000
set_option linter.unusedVariables false
set_option linter.unusedSimpArgs false
namespace Go.Lf
open Go

/-! ### integers without a sign -/
theorem wrap_u32 (n : Nat) : IntKind.wrap .u32 (n : Int) = ((n % 4294967296 : Nat) : Int) := by
  simp [IntKind.wrap, IntKind.bits, IntKind.signed]
theorem wrap_u64 (n : Nat) : IntKind.wrap .u64 (n : Int) = ((n % 18446744073709551616 : Nat) : Int) := by
  simp [IntKind.wrap, IntKind.bits, IntKind.signed]
theorem xor_u32 {a b : Nat} (ha : a < 4294967296) (hb : b < 4294967296) : bXor .u32 (a : Int) (b : Int) = ((a ^^^ b : Nat) : Int) := by
  have h : a ^^^ b < 2 ^ 32 := Nat.xor_lt_two_pow (by simpa using ha) (by simpa using hb)
  unfold bXor
  have e : (BitVec.ofInt (IntKind.bits .u32) (a : Int) ^^^ BitVec.ofInt (IntKind.bits .u32) (b : Int)).toNat = a ^^^ b := by
    show (BitVec.ofInt 32 (a : Int) ^^^ BitVec.ofInt 32 (b : Int)).toNat = a ^^^ b
    rw [BitVec.ofInt_natCast, BitVec.ofInt_natCast, BitVec.toNat_xor, BitVec.toNat_ofNat, BitVec.toNat_ofNat, Nat.mod_eq_of_lt (by simpa using ha), Nat.mod_eq_of_lt (by simpa using hb)]
  rw [e, wrap_u32, Nat.mod_eq_of_lt (by simpa using h)]
theorem or_u32 {a b : Nat} (ha : a < 4294967296) (hb : b < 4294967296) : bOr .u32 (a : Int) (b : Int) = ((a ||| b : Nat) : Int) := by
  have h : a ||| b < 2 ^ 32 := Nat.or_lt_two_pow (by simpa using ha) (by simpa using hb)
  unfold bOr
  have e : (BitVec.ofInt (IntKind.bits .u32) (a : Int) ||| BitVec.ofInt (IntKind.bits .u32) (b : Int)).toNat = a ||| b := by
    show (BitVec.ofInt 32 (a : Int) ||| BitVec.ofInt 32 (b : Int)).toNat = a ||| b
    rw [BitVec.ofInt_natCast, BitVec.ofInt_natCast, BitVec.toNat_or, BitVec.toNat_ofNat, BitVec.toNat_ofNat, Nat.mod_eq_of_lt (by simpa using ha), Nat.mod_eq_of_lt (by simpa using hb)]
  rw [e, wrap_u32, Nat.mod_eq_of_lt (by simpa using h)]
theorem xor_u64 {a b : Nat} (ha : a < 18446744073709551616) (hb : b < 18446744073709551616) : bXor .u64 (a : Int) (b : Int) = ((a ^^^ b : Nat) : Int) := by
  have h : a ^^^ b < 2 ^ 64 := Nat.xor_lt_two_pow (by simpa using ha) (by simpa using hb)
  unfold bXor
  have e : (BitVec.ofInt (IntKind.bits .u64) (a : Int) ^^^ BitVec.ofInt (IntKind.bits .u64) (b : Int)).toNat = a ^^^ b := by
    show (BitVec.ofInt 64 (a : Int) ^^^ BitVec.ofInt 64 (b : Int)).toNat = a ^^^ b
    rw [BitVec.ofInt_natCast, BitVec.ofInt_natCast, BitVec.toNat_xor, BitVec.toNat_ofNat, BitVec.toNat_ofNat, Nat.mod_eq_of_lt (by simpa using ha), Nat.mod_eq_of_lt (by simpa using hb)]
  rw [e, wrap_u64, Nat.mod_eq_of_lt (by simpa using h)]
theorem or_u64 {a b : Nat} (ha : a < 18446744073709551616) (hb : b < 18446744073709551616) : bOr .u64 (a : Int) (b : Int) = ((a ||| b : Nat) : Int) := by
  have h : a ||| b < 2 ^ 64 := Nat.or_lt_two_pow (by simpa using ha) (by simpa using hb)
  unfold bOr
  have e : (BitVec.ofInt (IntKind.bits .u64) (a : Int) ||| BitVec.ofInt (IntKind.bits .u64) (b : Int)).toNat = a ||| b := by
    show (BitVec.ofInt 64 (a : Int) ||| BitVec.ofInt 64 (b : Int)).toNat = a ||| b
    rw [BitVec.ofInt_natCast, BitVec.ofInt_natCast, BitVec.toNat_or, BitVec.toNat_ofNat, BitVec.toNat_ofNat, Nat.mod_eq_of_lt (by simpa using ha), Nat.mod_eq_of_lt (by simpa using hb)]
  rw [e, wrap_u64, Nat.mod_eq_of_lt (by simpa using h)]
/-- the lowest 32 bits -/
theorem low_u64 {a : Nat} (ha : a < 18446744073709551616) : bAnd .u64 (a : Int) (4294967295 : Int) = ((a % 4294967296 : Nat) : Int) := by
  unfold bAnd
  have e : (BitVec.ofInt (IntKind.bits .u64) (a : Int) &&& BitVec.ofInt (IntKind.bits .u64) (4294967295 : Int)).toNat = a % 4294967296 := by
    show (BitVec.ofInt 64 (a : Int) &&& BitVec.ofInt 64 ((4294967295 : Nat) : Int)).toNat = a % 4294967296
    rw [BitVec.ofInt_natCast, BitVec.ofInt_natCast, BitVec.toNat_and, BitVec.toNat_ofNat, BitVec.toNat_ofNat, Nat.mod_eq_of_lt (by simpa using ha)]
    have := Nat.and_two_pow_sub_one_eq_mod a 32
    simpa using this
  rw [e, wrap_u64, Nat.mod_eq_of_lt (by omega)]

theorem mulc (n k : Nat) : ((n : Nat) : Int) * ((k : Nat) : Int) = ((n * k : Nat) : Int) := (Int.natCast_mul n k).symm
/-! ### a key's hash -/
def hA (a c : Nat) : Nat := ((a ^^^ c) * 16777619) % 4294967296
def hX (b c : Nat) : Nat := ((b + c) % 4294967296 * 2246822507) % 4294967296
def hB (b c : Nat) : Nat := hX b c ^^^ (hX b c / 8192)
def hashL (l : List UInt8) : Nat × Nat := l.foldl (fun s c => (hA s.1 c.toNat, hB s.2 c.toNat)) (2166136261, 2538058380)
def hash1 (k : ByteArray) : Nat := (hashL k.data.toList).1
def hash2 (k : ByteArray) : Nat := (hashL k.data.toList).2 ||| 1
theorem hA_lt (a c : Nat) : hA a c < 4294967296 := Nat.mod_lt _ (by decide)
theorem hX_lt (b c : Nat) : hX b c < 4294967296 := Nat.mod_lt _ (by decide)
theorem hB_lt (b c : Nat) : hB b c < 4294967296 := by
  have h1 := hX_lt b c
  have : hB b c < 2 ^ 32 := Nat.xor_lt_two_pow (by simpa using h1) (by have : hX b c / 8192 ≤ hX b c := Nat.div_le_self _ _; omega)
  simpa using this
theorem hashL_snoc (l : List UInt8) (c : UInt8) : hashL (l ++ [c]) = (hA (hashL l).1 c.toNat, hB (hashL l).2 c.toNat) := by simp [hashL]
theorem hashL_lt (l : List UInt8) : (hashL l).1 < 4294967296 ∧ (hashL l).2 < 4294967296 := by
  rw [← List.reverse_reverse l]
  cases l.reverse with
  | nil => decide
  | cons c r => rw [List.reverse_cons, hashL_snoc]; exact ⟨hA_lt _ _, hB_lt _ _⟩
theorem hash2_lt (k : ByteArray) : hash2 k < 4294967296 := by
  have : hash2 k < 2 ^ 32 := Nat.or_lt_two_pow (by have := (hashL_lt k.data.toList).2; simpa using this) (by decide)
  simpa using this
theorem hash1_lt (k : ByteArray) : hash1 k < 4294967296 := (hashL_lt _).1

theorem stepA {a c : Nat} (ha : a < 4294967296) (hc : c < 256) : IntKind.wrap .u32 ((bXor .u32 (a : Int) (IntKind.wrap .u32 (c : Int))) * (16777619 : Int)) = ((hA a c : Nat) : Int) := by
  rw [wrap_u32, Nat.mod_eq_of_lt (by omega), xor_u32 ha (by omega), show ((a ^^^ c : Nat) : Int) * (16777619 : Int) = (((a ^^^ c) * 16777619 : Nat) : Int) from mulc _ 16777619, wrap_u32]; rfl
theorem stepX {b c : Nat} (hb : b < 4294967296) (hc : c < 256) : IntKind.wrap .u32 ((IntKind.wrap .u32 ((b : Int) + (IntKind.wrap .u32 (c : Int)))) * (2246822507 : Int)) = ((hX b c : Nat) : Int) := by
  rw [wrap_u32 c, Nat.mod_eq_of_lt (by omega), show ((b : Int) + (c : Int)) = ((b + c : Nat) : Int) by push_cast; rfl, wrap_u32, show (((b + c) % 4294967296 : Nat) : Int) * (2246822507 : Int) = (((b + c) % 4294967296 * 2246822507 : Nat) : Int) from mulc _ 2246822507, wrap_u32]; rfl
theorem fdiv_nat (n k : Nat) : ((n : Nat) : Int).fdiv ((2 : Int) ^ k) = ((n / 2 ^ k : Nat) : Int) := by
  rw [Int.fdiv_eq_ediv_of_nonneg _ (by have := Int.pow_pos (n := 2) (m := k) (by decide); omega)]
  push_cast; rfl
theorem stepB {b c : Nat} (hb : b < 4294967296) (hc : c < 256) : bXor .u32 (IntKind.wrap .u32 ((IntKind.wrap .u32 ((b : Int) + (IntKind.wrap .u32 (c : Int)))) * (2246822507 : Int))) ((IntKind.wrap .u32 ((IntKind.wrap .u32 ((b : Int) + (IntKind.wrap .u32 (c : Int)))) * (2246822507 : Int))).fdiv ((2 : Int) ^ (13 : Nat))) = ((hB b c : Nat) : Int) := by
  have h1 := hX_lt b c
  have h2 : hX b c / 2 ^ 13 ≤ hX b c := Nat.div_le_self _ _
  rw [stepX hb hc, fdiv_nat, xor_u32 h1 (by omega)]; rfl
theorem stepA' {a c : Nat} (ha : a < 4294967296) (hc : c < 256) : bAnd .u64 (IntKind.wrap .u64 ((bXor .u64 (a : Int) (IntKind.wrap .u64 (c : Int))) * (16777619 : Int))) (4294967295 : Int) = ((hA a c : Nat) : Int) := by
  have h : a ^^^ c < 2 ^ 32 := Nat.xor_lt_two_pow (by simpa using ha) (by omega)
  rw [wrap_u64 c, Nat.mod_eq_of_lt (by omega), xor_u64 (by omega) (by omega), show ((a ^^^ c : Nat) : Int) * (16777619 : Int) = (((a ^^^ c) * 16777619 : Nat) : Int) from mulc _ 16777619, wrap_u64, Nat.mod_eq_of_lt (by omega), low_u64 (by omega)]; rfl
theorem stepX' {b c : Nat} (hb : b < 4294967296) (hc : c < 256) : bAnd .u64 (IntKind.wrap .u64 ((bAnd .u64 (IntKind.wrap .u64 ((b : Int) + (IntKind.wrap .u64 (c : Int)))) (4294967295 : Int)) * (2246822507 : Int))) (4294967295 : Int) = ((hX b c : Nat) : Int) := by
  rw [wrap_u64 c, Nat.mod_eq_of_lt (by omega), show ((b : Int) + (c : Int)) = ((b + c : Nat) : Int) by push_cast; rfl, wrap_u64, Nat.mod_eq_of_lt (by omega), low_u64 (by omega), show (((b + c) % 4294967296 : Nat) : Int) * (2246822507 : Int) = (((b + c) % 4294967296 * 2246822507 : Nat) : Int) from mulc _ 2246822507, wrap_u64, Nat.mod_eq_of_lt (by omega), low_u64 (by omega)]; rfl
theorem stepB' {b c : Nat} (hb : b < 4294967296) (hc : c < 256) : bXor .u64 (bAnd .u64 (IntKind.wrap .u64 ((bAnd .u64 (IntKind.wrap .u64 ((b : Int) + (IntKind.wrap .u64 (c : Int)))) (4294967295 : Int)) * (2246822507 : Int))) (4294967295 : Int)) (IntKind.wrap .u64 ((bAnd .u64 (IntKind.wrap .u64 ((bAnd .u64 (IntKind.wrap .u64 ((b : Int) + (IntKind.wrap .u64 (c : Int)))) (4294967295 : Int)) * (2246822507 : Int))) (4294967295 : Int)).tdiv (8192 : Int))) = ((hB b c : Nat) : Int) := by
  have h1 := hX_lt b c
  have h2 : hX b c / 8192 ≤ hX b c := Nat.div_le_self _ _
  rw [stepX' hb hc, show ((hX b c : Nat) : Int).tdiv (8192 : Int) = ((hX b c / 8192 : Nat) : Int) from (Int.ofNat_tdiv (hX b c) 8192).symm, wrap_u64, Nat.mod_eq_of_lt (by omega), xor_u64 (by omega) (by omega)]; rfl

theorem sAt_nat {s : ByteArray} {i : Nat} {c : UInt8} (hc : s.data.toList[i]? = some c) : sAt s ((i : Nat) : Int) = ((c.toNat : Nat) : Int) := by
  have hi : i < s.data.toList.length := (List.getElem?_eq_some_iff.1 hc).1
  have hi2 : i < s.size := by simpa using hi
  unfold sAt
  have e : ((i : Nat) : Int).toNat = i := by omega
  rw [e]
  have h2 : s[i]? = some c := by
    rw [getElem?_pos s i hi2]
    congr 1
    have h3 := (List.getElem?_eq_some_iff.1 hc).2
    rw [← h3]
    rw [Array.getElem_toList]
    rfl
  rw [h2]; rfl

/-! ### places -/
def stepsN (k : ByteArray) : Nat := (hash1 k ^^^ (hash2 k / 128)) % 4096
theorem stepsN_lt (k : ByteArray) : stepsN k < 4096 := Nat.mod_lt _ (by decide)
def px (t : Nat) : Int := if t < 1024 then 1024 - (t : Int) else if t < 2048 then 1024 - (t : Int) else if t < 3072 then (t : Int) - 3072 else (t : Int) - 3072
def py (t : Nat) : Int := if t < 1024 then (t : Int) else if t < 2048 then 2048 - (t : Int) else if t < 3072 then 2048 - (t : Int) else (t : Int) - 4096
theorem place_abs {t : Nat} (ht : t < 4096) : max (px t) (-(px t)) + max (py t) (-(py t)) = 1024 := by unfold px py; split <;> (try split) <;> (try split) <;> omega
theorem place_le {t : Nat} (ht : t < 4096) : -1024 ≤ px t ∧ px t ≤ 1024 ∧ -1024 ≤ py t ∧ py t ≤ 1024 := by unfold px py; split <;> (try split) <;> (try split) <;> omega
theorem place_inj {s t : Nat} (hs : s < 4096) (ht : t < 4096) (h1 : px s = px t) (h2 : py s = py t) : s = t := by
  unfold px at h1
  unfold py at h2
  (repeat' split at h1) <;> (repeat' split at h2) <;> omega
/-- a quarter on -/
theorem place_on {t : Nat} (ht : t < 3072) : px (t + 1024) = -(py t) ∧ py (t + 1024) = px t := by unfold px py; (repeat' split) <;> omega
theorem place_head {t : Nat} (ht : t < 4096) : (px t > 0 ∧ py t ≥ 0) ↔ t < 1024 := by unfold px py; (repeat' split) <;> omega
theorem place_first {t : Nat} (ht : t < 1024) : py t = t ∧ px t = 1024 - t := by unfold px py; rw [if_pos ht, if_pos ht]; exact ⟨rfl, rfl⟩

def CP (p : Nat × Nat) (t : Nat) : Prop := t < 4096 ∧ VR p.1 (px t) ∧ VR p.2 (py t)
def turnN (s t : Nat) : Nat := (t + 4096 - s) % 4096
theorem turnN_lt (s t : Nat) : turnN s t < 4096 := Nat.mod_lt _ (by decide)

/-! ### the least -/
def distN (key a : ByteArray) : Nat := turnN (stepsN key) (stepsN a)
def ltH (key a b : ByteArray) : Bool := decide (distN key a < distN key b) || (decide (distN key a = distN key b) && sLt a b)
def ownerN (key : ByteArray) : List ByteArray → ByteArray
  | [] => ⟨#[]⟩
  | x :: l => l.foldl (fun m y => if ltH key y m then y else m) x
theorem ltH_irrefl (key a : ByteArray) : ltH key a a = false := by simp [ltH, sLt_irrefl]
theorem ltH_trans {key a b c : ByteArray} (h1 : ltH key a b = true) (h2 : ltH key b c = true) : ltH key a c = true := by
  simp only [ltH, Bool.or_eq_true, Bool.and_eq_true, decide_eq_true_eq] at *
  rcases h1 with h1 | ⟨h1, h1'⟩
  · rcases h2 with h2 | ⟨h2, h2'⟩
    · exact .inl (by omega)
    · exact .inl (by omega)
  · rcases h2 with h2 | ⟨h2, h2'⟩
    · exact .inl (by omega)
    · exact .inr ⟨by omega, sLt_trans h1' h2'⟩
theorem ltH_tri {key a b : ByteArray} (h1 : ltH key a b = false) (h2 : ltH key b a = false) : a = b := by
  simp only [ltH, Bool.or_eq_false_iff, Bool.and_eq_false_iff, decide_eq_false_iff_not] at *
  have e : distN key a = distN key b := by omega
  exact sLt_tri (h1.2.resolve_left (by omega)) (h2.2.resolve_left (by omega))
theorem foldl_least (key : ByteArray) : ∀ (l : List ByteArray) (x : ByteArray), (l.foldl (fun m y => if ltH key y m then y else m) x = x ∨ l.foldl (fun m y => if ltH key y m then y else m) x ∈ l) ∧
    ltH key x (l.foldl (fun m y => if ltH key y m then y else m) x) = false ∧ ∀ y ∈ l, ltH key y (l.foldl (fun m y => if ltH key y m then y else m) x) = false
  | [], x => ⟨.inl rfl, ltH_irrefl key x, by simp⟩
  | z :: l, x => by
    rw [List.foldl_cons]
    obtain ⟨h1, h2, h3⟩ := foldl_least key l (if ltH key z x then z else x)
    generalize l.foldl (fun m y => if ltH key y m then y else m) (if ltH key z x then z else x) = r at *
    have hle : ∀ {p q : ByteArray}, ltH key p q = false → ltH key q r = false → ltH key p r = false := fun {p q} a b => by
      cases h : ltH key p r
      · rfl
      · cases hqp : ltH key q p
        · have := ltH_tri a hqp; subst this; rw [b] at h; cases h
        · have := ltH_trans hqp h; rw [b] at this; cases this
    by_cases hz : ltH key z x = true
    · rw [if_pos hz] at h1 h2
      refine ⟨.inr (h1.elim (fun e => by rw [e]; exact List.mem_cons_self) (List.mem_cons_of_mem _)), ?_, fun y hy => ?_⟩
      · refine hle (q := z) ?_ h2
        cases h : ltH key x z
        · rfl
        · have := ltH_trans hz h; rw [ltH_irrefl] at this; cases this
      · rcases List.mem_cons.1 hy with rfl | hy
        · exact h2
        · exact h3 y hy
    · rw [if_neg hz] at h1 h2
      refine ⟨h1.elim .inl fun h => .inr (List.mem_cons_of_mem _ h), h2, fun y hy => ?_⟩
      rcases List.mem_cons.1 hy with rfl | hy
      · exact hle (by simpa using hz) h2
      · exact h3 y hy
theorem owner_least {key : ByteArray} {l : List ByteArray} (hl : l ≠ []) : ownerN key l ∈ l ∧ ∀ y ∈ l, ltH key y (ownerN key l) = false := by
  cases l with
  | nil => exact absurd rfl hl
  | cons x l =>
    obtain ⟨h1, h2, h3⟩ := foldl_least key l x
    refine ⟨h1.elim (fun e => ?_) fun h => List.mem_cons_of_mem _ h, fun y hy => ?_⟩
    · show l.foldl _ x ∈ x :: l
      rw [e]; exact List.mem_cons_self
    · rcases List.mem_cons.1 hy with rfl | hy
      · exact h2
      · exact h3 y hy
theorem owner_uniq {key x : ByteArray} {l : List ByteArray} (hx : x ∈ l) (h : ∀ y ∈ l, ltH key y x = false) : ownerN key l = x := by
  obtain ⟨h1, h2⟩ := owner_least (key := key) (l := l) (by rintro rfl; cases hx)
  exact ltH_tri (h _ h1) (h2 _ hx)
theorem owner_same {key : ByteArray} {l m : List ByteArray} (h : ∀ x, x ∈ l ↔ x ∈ m) : ownerN key l = ownerN key m := by
  cases l with
  | nil => cases m with
    | nil => rfl
    | cons y m => have := (h y).2 List.mem_cons_self; cases this
  | cons x l =>
    obtain ⟨h1, h2⟩ := owner_least (key := key) (l := x :: l) (by simp)
    exact (owner_uniq ((h _).1 h1) fun y hy => h2 y ((h y).2 hy)).symm
end Go.Lf

/-
  Plain law, no program in sight: numbers as bytes, seven bits each; readers of bytes; check sums; frames.
-/
set_option maxRecDepth 100000
set_option linter.unusedVariables false
set_option linter.unusedSimpArgs false
namespace Go.Lf
open Go

/-- bytes as a string -/
def strL (l : List UInt8) : ByteArray := ⟨l.toArray⟩
theorem strL_list (l : List UInt8) : (strL l).data.toList = l := by simp [strL]
theorem strL_of (s : ByteArray) : strL s.data.toList = s := by simp [strL]
theorem strL_size (l : List UInt8) : (strL l).size = l.length := by simp [strL, ByteArray.size]
theorem strL_inj {a b : List UInt8} : strL a = strL b ↔ a = b := ⟨fun h => by simpa [strL] using congrArg (fun s : ByteArray => s.data.toList) h, fun h => by rw [h]⟩

def byteN (n : Nat) : UInt8 := UInt8.ofNat n
theorem byteN_nat {n : Nat} (h : n < 256) : (byteN n).toNat = n := by simp [byteN, UInt8.toNat_ofNat']; omega
theorem byteN_of (c : UInt8) : byteN c.toNat = c := by simp [byteN]

/-- a number's bytes -/
def putV (n : Nat) : List UInt8 := if n < 128 then [byteN n] else byteN (n % 128 + 128) :: putV (n / 128)
termination_by n
decreasing_by omega

theorem putV_small {n : Nat} (h : n < 128) : putV n = [byteN n] := by rw [putV, if_pos h]
theorem putV_big {n : Nat} (h : ¬ n < 128) : putV n = byteN (n % 128 + 128) :: putV (n / 128) := by rw [putV, if_neg h]

/-- the number at the head, from the i-th byte on, and what stands behind it -/
def getV : Nat → Nat → List UInt8 → Option (Nat × List UInt8)
  | _, _, [] => none
  | i, a, c :: t =>
    if 10 ≤ i ∨ (i = 9 ∧ 1 < c.toNat) ∨ (0 < i ∧ c.toNat = 0) then none
    else if c.toNat < 128 then some (a + c.toNat * 128 ^ i, t) else getV (i + 1) (a + c.toNat % 128 * 128 ^ i) t

theorem pow128_le {i j : Nat} (h : i ≤ j) : 128 ^ i ≤ 128 ^ j := Nat.pow_le_pow_right (by decide) h

theorem get_put (t : List UInt8) : ∀ (n i a : Nat), n * 128 ^ i < 18446744073709551616 → (i = 0 ∨ 0 < n) → getV i a (putV n ++ t) = some (a + n * 128 ^ i, t) := by
  intro n
  induction n using Nat.strongRecOn with
  | ind n ih =>
    intro i a hb h0
    have hp : 0 < 128 ^ i := Nat.pos_of_ne_zero (Nat.pos_iff_ne_zero.1 (Nat.pow_pos (by decide)))
    by_cases hn : n < 128
    · rw [putV_small hn]
      simp only [List.cons_append, List.nil_append, getV, byteN_nat (show n < 256 by omega)]
      rw [if_neg, if_pos hn]
      rintro (h | ⟨h, h1⟩ | ⟨h, h1⟩)
      · have h2 := pow128_le h
        have h3 : 1 * 128 ^ i ≤ n * 128 ^ i := Nat.mul_le_mul_right _ (by omega)
        have h4 : (128 : Nat) ^ 10 = 1180591620717411303424 := by decide
        omega
      · subst h
        have h4 : (128 : Nat) ^ 9 = 9223372036854775808 := by decide
        rw [h4] at hb
        omega
      · omega
    · rw [putV_big hn]
      have hd : n / 128 < n := by omega
      simp only [List.cons_append, getV, byteN_nat (show n % 128 + 128 < 256 by omega)]
      rw [if_neg, if_neg (by omega), ih (n / 128) hd]
      · have e1 : (n % 128 + 128) % 128 = n % 128 := by omega
        rw [e1, Nat.pow_succ, Nat.add_assoc, show n % 128 * 128 ^ i + n / 128 * (128 ^ i * 128) = (n % 128 + 128 * (n / 128)) * 128 ^ i by
          rw [Nat.add_mul, Nat.mul_comm (128 ^ i) 128, ← Nat.mul_assoc, Nat.mul_comm (n / 128) 128], Nat.mod_add_div]
      · have h2 : n / 128 * 128 ≤ n := Nat.div_mul_le_self _ _
        have h3 : n / 128 * 128 * 128 ^ i ≤ n * 128 ^ i := Nat.mul_le_mul_right _ h2
        rw [Nat.pow_succ, Nat.mul_comm (128 ^ i) 128, ← Nat.mul_assoc]
        omega
      · omega
      · rintro (h | ⟨h, h1⟩ | ⟨h, h1⟩)
        · have h2 := pow128_le h
          have h3 : 128 * 128 ^ i ≤ n * 128 ^ i := Nat.mul_le_mul_right _ (by omega)
          have h4 : (128 : Nat) ^ 10 = 1180591620717411303424 := by decide
          omega
        · subst h
          have h4 : (128 : Nat) ^ 9 = 9223372036854775808 := by decide
          rw [h4] at hb
          omega
        · omega

/-- what is got is no longer, and its bytes are the number's -/
theorem getV_put : ∀ (l : List UInt8) (i a n : Nat) (t : List UInt8), getV i a l = some (n, t) → ∃ m, n = a + m * 128 ^ i ∧ l = putV m ++ t ∧ m * 128 ^ i < 18446744073709551616 ∧ (i = 0 ∨ 0 < m)
  | [], i, a, n, t, h => by simp [getV] at h
  | c :: l, i, a, n, t, h => by
    simp only [getV] at h
    split at h
    · cases h
    · rename_i hc
      have hc256 : c.toNat < 256 := c.toNat_lt
      split at h
      · rename_i h128
        obtain ⟨rfl, rfl⟩ := h
        refine ⟨c.toNat, rfl, by rw [putV_small h128, byteN_of]; rfl, ?_, by omega⟩
        have hi : i ≤ 9 := by omega
        by_cases h9 : i = 9
        · subst h9
          have h4 : (128 : Nat) ^ 9 = 9223372036854775808 := by decide
          rw [h4]; omega
        · have h2 := pow128_le (show i ≤ 8 by omega)
          have h4 : (128 : Nat) ^ 8 = 72057594037927936 := by decide
          have h3 : c.toNat * 128 ^ i ≤ 127 * 128 ^ i := Nat.mul_le_mul_right _ (by omega)
          omega
      · rename_i h128
        obtain ⟨m, e, rfl, hb, hm⟩ := getV_put l (i + 1) _ n t h
        have hm0 : 0 < m := by omega
        refine ⟨c.toNat % 128 + 128 * m, ?_, ?_, ?_, by omega⟩
        · rw [e, Nat.pow_succ, Nat.add_mul, Nat.add_assoc, Nat.mul_comm (128 ^ i) 128, ← Nat.mul_assoc, Nat.mul_comm m 128]
        · rw [putV_big (n := c.toNat % 128 + 128 * m) (by omega), show (c.toNat % 128 + 128 * m) % 128 + 128 = c.toNat by omega, show (c.toNat % 128 + 128 * m) / 128 = m by omega, byteN_of]; rfl
        · rw [Nat.pow_succ, Nat.mul_comm (128 ^ i) 128, ← Nat.mul_assoc] at hb
          have h128p : (18446744073709551616 : Nat) = 144115188075855872 * 128 := by decide
          have hi8 : i ≤ 8 := by
            refine Nat.le_of_not_lt fun hh => ?_
            have h2 := pow128_le (show 9 ≤ i from hh)
            have h4 : (128 : Nat) ^ 9 = 9223372036854775808 := by decide
            have h3 : 1 * 128 * 128 ^ i ≤ m * 128 * 128 ^ i := Nat.mul_le_mul_right _ (Nat.mul_le_mul_right _ hm0)
            omega
          have e2 : (18446744073709551616 : Nat) = 128 ^ (i + 1) * (18446744073709551616 / 128 ^ (i + 1)) := by
            have : i = 0 ∨ i = 1 ∨ i = 2 ∨ i = 3 ∨ i = 4 ∨ i = 5 ∨ i = 6 ∨ i = 7 ∨ i = 8 := by omega
            rcases this with rfl | rfl | rfl | rfl | rfl | rfl | rfl | rfl | rfl <;> decide
          have hp : 0 < 128 ^ i := Nat.pos_of_ne_zero (Nat.pos_iff_ne_zero.1 (Nat.pow_pos (by decide)))
          have hlt : m < 18446744073709551616 / 128 ^ (i + 1) := by
            refine Nat.lt_of_mul_lt_mul_left (a := 128 ^ (i + 1)) ?_
            rw [← e2, Nat.pow_succ, Nat.mul_comm, Nat.mul_comm (128 ^ i) 128, ← Nat.mul_assoc]
            exact hb
          have h5 : 128 ^ (i + 1) * (m + 1) ≤ 128 ^ (i + 1) * (18446744073709551616 / 128 ^ (i + 1)) := Nat.mul_le_mul_left _ hlt
          rw [← e2, Nat.pow_succ] at h5
          have h6 : (c.toNat % 128 + 128 * m) * 128 ^ i < 128 * (m + 1) * 128 ^ i := Nat.mul_lt_mul_of_pos_right (by omega) hp
          have h7 : 128 * (m + 1) * 128 ^ i = 128 ^ i * 128 * (m + 1) := by rw [Nat.mul_comm, ← Nat.mul_assoc]
          omega

theorem putV_shape : ∀ n : Nat, ∃ d x, putV n = d ++ [x] ∧ (∀ c ∈ d, 128 ≤ c.toNat) ∧ x.toNat < 128 := by
  intro n
  induction n using Nat.strongRecOn with
  | ind n ih =>
    by_cases hn : n < 128
    · exact ⟨[], byteN n, by rw [putV_small hn]; rfl, by simp, by rw [byteN_nat (by omega)]; exact hn⟩
    · obtain ⟨d, x, e, h1, h2⟩ := ih (n / 128) (by omega)
      refine ⟨byteN (n % 128 + 128) :: d, x, by rw [putV_big hn, e]; rfl, fun c hc => ?_, h2⟩
      rcases List.mem_cons.1 hc with rfl | hc
      · rw [byteN_nat (by omega)]; omega
      · exact h1 c hc
theorem putV_pos (n : Nat) : 0 < (putV n).length := by
  obtain ⟨d, x, e, _⟩ := putV_shape n
  rw [e]; simp
theorem putV_len : ∀ (k n : Nat), n < 128 ^ (k + 1) → (putV n).length ≤ k + 1 := by
  intro k
  induction k with
  | zero => intro n h; rw [putV_small (by simpa using h)]; simp
  | succ k ih =>
    intro n h
    by_cases hn : n < 128
    · rw [putV_small hn]; simp
    · rw [putV_big hn]
      have := ih (n / 128) (by rw [Nat.div_lt_iff_lt_mul (by decide), ← Nat.pow_succ]; exact h)
      simp; omega
theorem putV_len10 {n : Nat} (h : n < 18446744073709551616) : (putV n).length ≤ 10 := by
  refine putV_len 9 n (Nat.lt_of_lt_of_le h ?_)
  decide

/-- the number that bytes would make, checked or not -/
def rawV : List UInt8 → Nat
  | [] => 0
  | c :: t => c.toNat % 128 + 128 * rawV t
theorem rawV_put : ∀ n : Nat, rawV (putV n) = n := by
  intro n
  induction n using Nat.strongRecOn with
  | ind n ih =>
    by_cases hn : n < 128
    · rw [putV_small hn]; simp only [rawV, byteN_nat (show n < 256 by omega)]; omega
    · rw [putV_big hn]
      simp only [rawV, byteN_nat (show n % 128 + 128 < 256 by omega), ih (n / 128) (by omega)]
      omega
theorem rawV_snoc (c : UInt8) : ∀ l : List UInt8, rawV (l ++ [c]) = rawV l + c.toNat % 128 * 128 ^ l.length
  | [] => by simp [rawV]
  | x :: l => by
    simp only [List.cons_append, rawV, rawV_snoc c l, List.length_cons, Nat.pow_succ, Nat.mul_add]
    rw [Nat.add_assoc, Nat.mul_comm (128 ^ l.length) 128, ← Nat.mul_assoc, ← Nat.mul_assoc, Nat.mul_comm 128 (c.toNat % 128)]
theorem rawV_lt : ∀ l : List UInt8, rawV l < 128 ^ l.length
  | [] => by simp [rawV]
  | c :: l => by
    have := rawV_lt l
    simp only [rawV, List.length_cons, Nat.pow_succ]
    omega
theorem getV0 {l : List UInt8} {n : Nat} {t : List UInt8} (h : getV 0 0 l = some (n, t)) : l = putV n ++ t ∧ n < 18446744073709551616 := by
  obtain ⟨m, e, h1, h2, _⟩ := getV_put l 0 0 n t h
  simp at e h2
  subst e
  exact ⟨h1, h2⟩
theorem getV0_put {n : Nat} (h : n < 18446744073709551616) (t : List UInt8) : getV 0 0 (putV n ++ t) = some (n, t) := by
  rw [get_put t n 0 0 (by simpa using h) (.inl rfl)]; simp
theorem putV_inj {n m : Nat} {s t : List UInt8} (hn : n < 18446744073709551616) (hm : m < 18446744073709551616) (h : putV n ++ s = putV m ++ t) : n = m ∧ s = t := by
  have h1 := getV0_put hn s
  rw [h, getV0_put hm t] at h1
  simp at h1
  exact ⟨h1.1.symm, h1.2.symm⟩

/-- the first byte below 128 decides -/
theorem getV0_at {l : List UInt8} {i : Nat} {c : UInt8} (hc : l[i]? = some c) (hlow : c.toNat < 128) (hall : ∀ x ∈ l.take i, 128 ≤ x.toNat) (hi : i < 10) :
    getV 0 0 l = if putV (rawV (l.take (i + 1)) % 18446744073709551616) = l.take (i + 1) then some (rawV (l.take (i + 1)) % 18446744073709551616, l.drop (i + 1)) else none := by
  by_cases hq : putV (rawV (l.take (i + 1)) % 18446744073709551616) = l.take (i + 1)
  · rw [if_pos hq]
    have := getV0_put (n := rawV (l.take (i + 1)) % 18446744073709551616) (Nat.mod_lt _ (by decide)) (l.drop (i + 1))
    rwa [hq, List.take_append_drop] at this
  · rw [if_neg hq]
    cases hg : getV 0 0 l with
    | none => rfl
    | some p =>
      obtain ⟨n, t⟩ := p
      obtain ⟨e, hn⟩ := getV0 hg
      exfalso
      obtain ⟨d, x, e2, h1, h2⟩ := putV_shape n
      have hlen : d.length = i := by
        rcases Nat.lt_trichotomy d.length i with hlt | he | hgt
        · have : x ∈ l.take i := by
            have : (l.take i)[d.length]? = some x := by rw [List.getElem?_take, if_pos hlt, e, e2]; simp
            exact List.mem_of_getElem? this
          have := hall x this
          omega
        · exact he
        · have hd : l[i]? = d[i]? := by rw [e, e2, List.append_assoc, List.getElem?_append_left hgt]
          rw [hc] at hd
          have := h1 c (List.mem_of_getElem? hd.symm)
          omega
      have ht : l.take (i + 1) = putV n := by
        rw [e, List.take_append_of_le_length (by rw [e2, ← hlen]; simp), List.take_of_length_le (by rw [e2, ← hlen]; simp)]
      rw [ht, rawV_put, Nat.mod_eq_of_lt hn] at hq
      exact hq rfl
theorem getV0_none {l : List UInt8} (hall : ∀ x ∈ l.take 10, 128 ≤ x.toNat) : getV 0 0 l = none := by
  cases hg : getV 0 0 l with
  | none => rfl
  | some p =>
    obtain ⟨n, t⟩ := p
    obtain ⟨e, hn⟩ := getV0 hg
    obtain ⟨d, x, e2, h1, h2⟩ := putV_shape n
    have hl := putV_len10 hn
    have : x ∈ l.take 10 := by
      have : (l.take 10)[d.length]? = some x := by
        rw [e2] at hl
        simp at hl
        rw [List.getElem?_take, if_pos (by omega), e, e2]; simp
      exact List.mem_of_getElem? this
    have := hall x this
    omega

/-! ### check sums -/
def crcBit (c : Nat) : Nat := if c % 2 = 1 then c / 2 ^^^ 3988292384 else c / 2
def crcIt : Nat → Nat → Nat
  | 0, c => c
  | k + 1, c => crcBit (crcIt k c)
def crcB (c : Nat) (b : UInt8) : Nat := crcIt 8 (c ^^^ b.toNat)
def crcF (l : List UInt8) : Nat := l.foldl crcB 4294967295
def crcL (l : List UInt8) : Nat := 4294967295 - crcF l
theorem crcBit_lt {c : Nat} (h : c < 4294967296) : crcBit c < 4294967296 := by
  unfold crcBit
  split
  · exact Nat.xor_lt_two_pow (n := 32) (by omega) (by decide)
  · omega
theorem crcIt_lt {c : Nat} (h : c < 4294967296) : ∀ k, crcIt k c < 4294967296
  | 0 => h
  | k + 1 => crcBit_lt (crcIt_lt h k)
theorem crcB_lt {c : Nat} (h : c < 4294967296) (b : UInt8) : crcB c b < 4294967296 := by
  have hb : b.toNat < 256 := b.toNat_lt
  exact crcIt_lt (Nat.xor_lt_two_pow (n := 32) h (by omega)) 8
theorem crcF_snoc (l : List UInt8) (b : UInt8) : crcF (l ++ [b]) = crcB (crcF l) b := by simp [crcF]
theorem crcF_lt (l : List UInt8) : crcF l < 4294967296 := by
  unfold crcF
  suffices ∀ (l : List UInt8) (c : Nat), c < 4294967296 → l.foldl crcB c < 4294967296 from this l _ (by decide)
  intro l
  induction l with
  | nil => exact fun c h => h
  | cons x l ih => exact fun c h => ih _ (crcB_lt h x)
theorem crcL_lt (l : List UInt8) : crcL l < 4294967296 := by unfold crcL; omega

/-- a sum's four bytes -/
def markL (n : Nat) : List UInt8 := [byteN (n / 16777216 % 256), byteN (n / 65536 % 256), byteN (n / 256 % 256), byteN (n % 256)]
theorem markL_len (n : Nat) : (markL n).length = 4 := rfl

/-- a frame's bytes -/
def wrapL (l : List UInt8) : List UInt8 := putV l.length ++ markL (crcL l) ++ l
/-- the frame at the head: errno, body, what stands behind it -/
def nextL (l : List UInt8) : Nat × List UInt8 × List UInt8 :=
  match getV 0 0 l with
  | none => if l.length < 10 ∧ ∀ c ∈ l, 128 ≤ c.toNat then (20, [], []) else (21, [], [])
  | some (n, r) =>
    if 1048576 < n then (21, [], []) else if r.length < 4 + n then (20, [], [])
    else if r.take 4 = markL (crcL ((r.drop 4).take n)) then (0, (r.drop 4).take n, r.drop (4 + n)) else (21, [], [])
theorem next_wrap {l : List UInt8} (h : l.length ≤ 1048576) (t : List UInt8) : nextL (wrapL l ++ t) = (0, l, t) := by
  unfold nextL wrapL
  rw [List.append_assoc, List.append_assoc, getV0_put (by omega)]
  dsimp only
  rw [if_neg (by omega), if_neg (by simp [markL_len])]
  have e1 : (markL (crcL l) ++ (l ++ t)).take 4 = markL (crcL l) := by rw [List.take_append_of_le_length (by simp [markL_len])]; exact List.take_of_length_le (by simp [markL_len])
  have e2 : (markL (crcL l) ++ (l ++ t)).drop 4 = l ++ t := by rw [List.drop_append_of_le_length (by simp [markL_len])]; simp [markL]
  have e3 : (l ++ t).take l.length = l := by simp
  rw [e1, e2, e3, if_pos rfl, ← List.drop_drop, e2]
  simp

/-! ### readers -/
structure Rd where
  rest : List UInt8
  bad : Bool
def Rd.fail : Rd := ⟨[], true⟩
def Rd.Fine (r : Rd) : Prop := r.bad = true → r.rest = []
def numR (r : Rd) : Nat × Rd := if r.bad then (0, r) else match getV 0 0 r.rest with | none => (0, Rd.fail) | some (n, t) => (n, ⟨t, false⟩)
def intR (most : Nat) (r : Rd) : Nat × Rd := if (numR r).2.bad then (0, (numR r).2) else if most < (numR r).1 then (0, Rd.fail) else numR r
def takeR (n : Nat) (r : Rd) : List UInt8 × Rd := if r.bad then ([], r) else if r.rest.length < n then ([], Rd.fail) else (r.rest.take n, ⟨r.rest.drop n, false⟩)
def textR (r : Rd) : List UInt8 × Rd := if (numR r).2.bad then ([], (numR r).2) else takeR (numR r).1 (numR r).2
def endR (r : Rd) : Bool := !r.bad && r.rest.isEmpty
/-- a text's bytes -/
def textL (l : List UInt8) : List UInt8 := putV l.length ++ l

theorem numR_put {n : Nat} (h : n < 18446744073709551616) (t : List UInt8) : numR ⟨putV n ++ t, false⟩ = (n, ⟨t, false⟩) := by simp [numR, getV0_put h]
theorem intR_put {n most : Nat} (h : n < 18446744073709551616) (hm : n ≤ most) (t : List UInt8) : intR most ⟨putV n ++ t, false⟩ = (n, ⟨t, false⟩) := by
  simp only [intR, numR_put h]; simp; omega
theorem takeR_put (l t : List UInt8) : takeR l.length ⟨l ++ t, false⟩ = (l, ⟨t, false⟩) := by simp [takeR]; omega
theorem textR_put {l : List UInt8} (h : l.length < 18446744073709551616) (t : List UInt8) : textR ⟨textL l ++ t, false⟩ = (l, ⟨t, false⟩) := by
  simp only [textR, textL, List.append_assoc, numR_put h, takeR_put]; simp
theorem numR_bad {r : Rd} (h : r.bad = true) : numR r = (0, r) := by simp [numR, h]
theorem intR_bad {r : Rd} {m : Nat} (h : r.bad = true) : intR m r = (0, r) := by simp [intR, numR_bad h, h]
theorem textR_bad {r : Rd} (h : r.bad = true) : textR r = ([], r) := by simp [textR, numR_bad h, h]
theorem numR_fine {r : Rd} (h : r.Fine) : (numR r).2.Fine := by
  unfold numR
  split
  · exact h
  · split
    · exact fun _ => rfl
    · exact fun h => by cases h
theorem intR_fine {r : Rd} {m : Nat} (h : r.Fine) : (intR m r).2.Fine := by
  unfold intR
  split
  · exact numR_fine h
  · split
    · exact fun _ => rfl
    · exact numR_fine h
theorem takeR_fine {r : Rd} {n : Nat} (h : r.Fine) : (takeR n r).2.Fine := by
  unfold takeR
  split
  · exact h
  · split
    · exact fun _ => rfl
    · exact fun h => by cases h
theorem textR_fine {r : Rd} (h : r.Fine) : (textR r).2.Fine := by
  unfold textR
  split
  · exact numR_fine h
  · exact takeR_fine (numR_fine h)
/-- what a reader that stays good has read -/
theorem numR_good {r : Rd} (h : (numR r).2.bad = false) : r.bad = false ∧ r.rest = putV (numR r).1 ++ (numR r).2.rest ∧ (numR r).1 < 18446744073709551616 := by
  unfold numR at h ⊢
  split at h
  · rename_i hb; rw [h] at hb; cases hb
  · rename_i hb
    cases hg : getV 0 0 r.rest with
    | none => rw [hg] at h; cases h
    | some p =>
      obtain ⟨n, t⟩ := p
      obtain ⟨e, hn⟩ := getV0 hg
      simp only [hb]
      exact ⟨by simp, e, hn⟩
theorem intR_good {r : Rd} {m : Nat} (h : (intR m r).2.bad = false) : r.bad = false ∧ r.rest = putV (intR m r).1 ++ (intR m r).2.rest ∧ (intR m r).1 ≤ m := by
  unfold intR at h ⊢
  split at h
  · rename_i hb; rw [h] at hb; cases hb
  · split at h
    · cases h
    · rename_i hb hm
      rw [if_neg hb, if_neg hm]
      obtain ⟨h1, h2, _⟩ := numR_good h
      exact ⟨h1, h2, by omega⟩
theorem takeR_good {r : Rd} {n : Nat} (h : (takeR n r).2.bad = false) : r.bad = false ∧ r.rest = (takeR n r).1 ++ (takeR n r).2.rest ∧ (takeR n r).1.length = n := by
  unfold takeR at h ⊢
  split at h
  · rename_i hb; rw [h] at hb; cases hb
  · split at h
    · cases h
    · rename_i hb hm
      rw [if_neg hb, if_neg hm]
      exact ⟨by simpa using hb, by simp, by simp; omega⟩
theorem textR_good {r : Rd} (h : (textR r).2.bad = false) : r.bad = false ∧ r.rest = textL (textR r).1 ++ (textR r).2.rest := by
  unfold textR at h ⊢
  split at h
  · rename_i hb; rw [h] at hb; cases hb
  · rename_i hb
    rw [if_neg hb]
    obtain ⟨h1, h2, _⟩ := numR_good (r := r) (by simpa using hb)
    obtain ⟨_, h4, h5⟩ := takeR_good h
    refine ⟨h1, ?_⟩
    rw [h2, h4, textL, List.append_assoc]
    rw [h5]
theorem len_numR (r : Rd) : (numR r).2.rest.length ≤ r.rest.length := by
  unfold numR
  split
  · exact Nat.le_refl _
  · split
    · simp [Rd.fail]
    · rename_i n t hg
      obtain ⟨e, _⟩ := getV0 hg
      rw [e]; simp
theorem len_intR (m : Nat) (r : Rd) : (intR m r).2.rest.length ≤ r.rest.length := by
  unfold intR
  split
  · exact len_numR r
  · split
    · simp [Rd.fail]
    · exact len_numR r
theorem len_takeR (n : Nat) (r : Rd) : (takeR n r).2.rest.length ≤ r.rest.length ∧ (takeR n r).1.length ≤ r.rest.length := by
  unfold takeR
  split
  · simp
  · split
    · simp [Rd.fail]
    · simp; omega
theorem len_textR (r : Rd) : (textR r).2.rest.length ≤ r.rest.length ∧ (textR r).1.length ≤ r.rest.length := by
  unfold textR
  split
  · exact ⟨len_numR r, by simp⟩
  · have := len_takeR (numR r).1 (numR r).2
    have := len_numR r
    omega
end Go.Lf

/-
  Bytes in memory: slices of bytes, and strings made of them; bits of numbers.
-/
set_option maxRecDepth 100000
set_option linter.unusedVariables false
set_option linter.unusedSimpArgs false
namespace Go.Lf
open Go

def ByteE : Enc UInt8 where
  enc x := [.int .u8 (x.toNat : Int)]
  w := 1
  len _ := rfl
  pos := by omega
  one x v hv := by simp at hv; subst hv; rfl
theorem Cells.byte {h : Heap} {a : Addr} {x : UInt8} (c : Cells h a (ByteE.enc x)) : hget h a = some (.int .u8 (x.toNat : Int)) := by
  have h0 := c 0 _ rfl
  rwa [add_zero] at h0

theorem fold_push : ∀ (l : List UInt8) (s : ByteArray), (l.map fun c => (c.toNat : Int)).foldl (fun r n => r.push (UInt8.ofNat n.toNat)) s = ⟨s.data ++ l.toArray⟩
  | [], s => by simp
  | c :: l, s => by
    simp only [List.map_cons, List.foldl_cons]
    rw [fold_push l]
    simp [ByteArray.push, Array.append_assoc]

/-- the string of a slice of bytes -/
theorem bytes_str {A : Amb} {P : Program} {src dst e : TypeId} (hs : P.underlying src = some (.slice e)) (he : P.underlying e = some (.int .u8)) (hd : P.underlying dst = some .string) {h : Heap} {s : Sl} {l : List UInt8} {K : Value → Heap → Prop}
    (v : View ByteE h s l) (H : K (.string (strL l)) h) : RunK A P (convert src dst (.slice s.p s.len s.cap)) h K := by
  have hl := v.len
  refine fun n => ⟨_, h, n, ?_, H⟩
  rw [run_convert_bytes_string _ src dst e _ s.len s.cap hs he hd]
  cases hp : s.p with
  | none =>
    have hl0 : l = [] := by
      cases l with
      | nil => rfl
      | cons c l =>
        obtain ⟨a, ha, _⟩ := v.cells 0 c rfl
        rw [hp] at ha; cases ha
    subst hl0
    simp [Conv.bytesToString, strL]
    rfl
  | some a =>
    have h1 : (loadCells a s.len).run P (A.at h n) = .ok ((l.map fun c => (c.toNat : Int)).map (Value.int .u8)).toArray (A.at h n) := by
      have := run_loadCells_list (P := P) (w := A.at h n) a ((l.map fun c => (c.toNat : Int)).map (Value.int .u8)) (fun j u hj => by
        simp only [List.getElem?_map, Option.map_map, Option.map_eq_some_iff] at hj
        obtain ⟨c, hc, rfl⟩ := hj
        obtain ⟨a', ha, hcc⟩ := v.cells j c hc
        rw [hp] at ha
        cases ha
        have := Cells.byte hcc
        simp only [ByteE, Nat.mul_one] at this
        exact this)
      simpa [hl] using this
    rw [run_bytesToString _ a s.len s.cap _ h1, fold_push]
    simp [strL, ByteArray.empty, ByteArray.emptyWithCapacity]
    rfl

/-! ### parts of strings -/
theorem ext_list (s : ByteArray) (i j : Nat) : s.extract i j = strL ((s.data.toList.take j).drop i) := by
  apply ByteArray.ext
  rw [ByteArray.data_extract, strL]
  apply Array.toList_inj.1
  simp [Array.toList_extract, List.extract_eq_take_drop, List.drop_take]
theorem size_list (s : ByteArray) : s.data.toList.length = s.size := by rw [Array.length_toList]; rfl
theorem ext_drop (s : ByteArray) (i : Nat) : s.extract i s.size = strL (s.data.toList.drop i) := by
  rw [ext_list, List.take_of_length_le (by rw [size_list]; exact Nat.le_refl _)]
theorem ext_take (s : ByteArray) (i : Nat) : s.extract 0 i = strL (s.data.toList.take i) := by
  rw [ext_list]; simp

/-! ### bits -/
theorem wrap_u8 (n : Nat) : IntKind.wrap .u8 (n : Int) = ((n % 256 : Nat) : Int) := by
  simp [IntKind.wrap, IntKind.bits, IntKind.signed]
theorem or_u8 {a b : Nat} (ha : a < 256) (hb : b < 256) : bOr .u8 (a : Int) (b : Int) = ((a ||| b : Nat) : Int) := by
  have h : a ||| b < 2 ^ 8 := Nat.or_lt_two_pow (by simpa using ha) (by simpa using hb)
  unfold bOr
  have e : (BitVec.ofInt (IntKind.bits .u8) (a : Int) ||| BitVec.ofInt (IntKind.bits .u8) (b : Int)).toNat = a ||| b := by
    show (BitVec.ofInt 8 (a : Int) ||| BitVec.ofInt 8 (b : Int)).toNat = a ||| b
    rw [BitVec.ofInt_natCast, BitVec.ofInt_natCast, BitVec.toNat_or, BitVec.toNat_ofNat, BitVec.toNat_ofNat, Nat.mod_eq_of_lt (by simpa using ha), Nat.mod_eq_of_lt (by simpa using hb)]
  rw [e, wrap_u8, Nat.mod_eq_of_lt (by simpa using h)]
theorem and_u8 {a b : Nat} (ha : a < 256) (hb : b < 256) : bAnd .u8 (a : Int) (b : Int) = ((a &&& b : Nat) : Int) := by
  have h : a &&& b < 2 ^ 8 := Nat.lt_of_le_of_lt Nat.and_le_left (by simpa using ha)
  unfold bAnd
  have e : (BitVec.ofInt (IntKind.bits .u8) (a : Int) &&& BitVec.ofInt (IntKind.bits .u8) (b : Int)).toNat = a &&& b := by
    show (BitVec.ofInt 8 (a : Int) &&& BitVec.ofInt 8 (b : Int)).toNat = a &&& b
    rw [BitVec.ofInt_natCast, BitVec.ofInt_natCast, BitVec.toNat_and, BitVec.toNat_ofNat, BitVec.toNat_ofNat, Nat.mod_eq_of_lt (by simpa using ha), Nat.mod_eq_of_lt (by simpa using hb)]
  rw [e, wrap_u8, Nat.mod_eq_of_lt (by simpa using h)]
theorem and_u32 {a b : Nat} (ha : a < 4294967296) (hb : b < 4294967296) : bAnd .u32 (a : Int) (b : Int) = ((a &&& b : Nat) : Int) := by
  have h : a &&& b < 2 ^ 32 := Nat.lt_of_le_of_lt Nat.and_le_left (by simpa using ha)
  unfold bAnd
  have e : (BitVec.ofInt (IntKind.bits .u32) (a : Int) &&& BitVec.ofInt (IntKind.bits .u32) (b : Int)).toNat = a &&& b := by
    show (BitVec.ofInt 32 (a : Int) &&& BitVec.ofInt 32 (b : Int)).toNat = a &&& b
    rw [BitVec.ofInt_natCast, BitVec.ofInt_natCast, BitVec.toNat_and, BitVec.toNat_ofNat, BitVec.toNat_ofNat, Nat.mod_eq_of_lt (by simpa using ha), Nat.mod_eq_of_lt (by simpa using hb)]
  rw [e, wrap_u32, Nat.mod_eq_of_lt (by simpa using h)]
theorem and_u64 {a b : Nat} (ha : a < 18446744073709551616) (hb : b < 18446744073709551616) : bAnd .u64 (a : Int) (b : Int) = ((a &&& b : Nat) : Int) := by
  have h : a &&& b < 2 ^ 64 := Nat.lt_of_le_of_lt Nat.and_le_left (by simpa using ha)
  unfold bAnd
  have e : (BitVec.ofInt (IntKind.bits .u64) (a : Int) &&& BitVec.ofInt (IntKind.bits .u64) (b : Int)).toNat = a &&& b := by
    show (BitVec.ofInt 64 (a : Int) &&& BitVec.ofInt 64 (b : Int)).toNat = a &&& b
    rw [BitVec.ofInt_natCast, BitVec.ofInt_natCast, BitVec.toNat_and, BitVec.toNat_ofNat, BitVec.toNat_ofNat, Nat.mod_eq_of_lt (by simpa using ha), Nat.mod_eq_of_lt (by simpa using hb)]
  rw [e, wrap_u64, Nat.mod_eq_of_lt (by simpa using h)]
theorem or128 : ∀ x, x < 256 → x ||| 128 = x % 128 + 128 := by decide +kernel
theorem and127 : ∀ x, x < 256 → x &&& 127 = x % 128 := by decide +kernel
/-- a byte of a number, with the mark that more come -/
theorem put_byte (n : Nat) : bOr .u8 (IntKind.wrap .u8 (n : Int)) (128 : Int) = (((byteN (n % 128 + 128)).toNat : Nat) : Int) := by
  have h := or_u8 (a := n % 256) (b := 128) (Nat.mod_lt _ (by decide)) (by decide)
  rw [wrap_u8]
  rw [show (128 : Int) = ((128 : Nat) : Int) from rfl, h, or128 _ (Nat.mod_lt _ (by decide)), byteN_nat (by omega)]
  congr 1
  omega

theorem pow7 (i : Nat) : 2 ^ (7 * i) = 128 ^ i := by rw [Nat.pow_mul]
/-- one more byte of a number that is read -/
theorem step_or {a x i : Nat} (hi : i ≤ 9) (ha : a < 128 ^ i) (hx : x < 128) : bOr .u64 (a : Int) (((x * 128 ^ i % 18446744073709551616 : Nat)) : Int) = ((a + x * 128 ^ i % 18446744073709551616 : Nat) : Int) := by
  have hp : 0 < 128 ^ i := Nat.pow_pos (by decide)
  have h9 := pow128_le hi
  have e9 : (128 : Nat) ^ 9 = 9223372036854775808 := by decide
  rw [or_u64 (by omega) (Nat.mod_lt _ (by decide))]
  congr 1
  have e2 : ∃ q, (18446744073709551616 : Nat) = 128 ^ i * q := by
    have : i = 0 ∨ i = 1 ∨ i = 2 ∨ i = 3 ∨ i = 4 ∨ i = 5 ∨ i = 6 ∨ i = 7 ∨ i = 8 ∨ i = 9 := by omega
    refine ⟨18446744073709551616 / 128 ^ i, ?_⟩
    rcases this with rfl | rfl | rfl | rfl | rfl | rfl | rfl | rfl | rfl | rfl <;> decide
  obtain ⟨q, e2⟩ := e2
  rw [e2, Nat.mul_comm x, Nat.mul_mod_mul_left, ← pow7, Nat.or_comm, Nat.add_comm]
  exact (Nat.two_pow_add_eq_or_of_lt (by rw [pow7]; exact ha) _).symm

theorem shift7 {x i : Nat} (hi : i ≤ 9) (hx : x < 128) : IntKind.wrap .u64 (((x : Nat) : Int) * ((2 : Int) ^ (min ((7 * i : Nat) : Int).toNat (IntKind.bits .u64)))) = ((x * 128 ^ i % 18446744073709551616 : Nat) : Int) := by
  have e : min ((7 * i : Nat) : Int).toNat (IntKind.bits .u64) = 7 * i := by
    have : IntKind.bits .u64 = 64 := rfl
    omega
  rw [e, show ((2 : Int) ^ (7 * i)) = ((2 ^ (7 * i) : Nat) : Int) by simp, mulc, wrap_u64, pow7]

/-- what came to be behind h may be changed -/
theorem Mod.more {h h1 h2 : Heap} {S : Nat → Prop} (x : Ext h h1) (m : Mod S h1 h2) (hS : ∀ b, S b → h.size ≤ b) : Ext h h2 :=
  Mod.then x (m.weak fun c _ hc => .inr (hS c hc))
end Go.Lf

