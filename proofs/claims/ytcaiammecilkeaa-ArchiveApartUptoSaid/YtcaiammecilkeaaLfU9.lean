/-
  Bytes in memory: slices of bytes, and strings made of them; bits of numbers.
-/
import Derived.Test.YtcaiammecilkeaaLfU8
import Derived.Laws.BytesString
import Derived.Laws.BytesArg
set_option maxRecDepth 100000
set_option linter.unusedVariables false
set_option linter.unusedSimpArgs false
namespace Go.Lf
open Go

def ByteE : Enc UInt8 where
  enc x := [.int .u8 (x.toNat : Int)]
  w := 1
  len _ := rfl
  pos := by omega
  one x v hv := by simp at hv; subst hv; rfl
theorem Cells.byte {h : Heap} {a : Addr} {x : UInt8} (c : Cells h a (ByteE.enc x)) : hget h a = some (.int .u8 (x.toNat : Int)) := by
  have h0 := c 0 _ rfl
  rwa [add_zero] at h0

theorem fold_push : ∀ (l : List UInt8) (s : ByteArray), (l.map fun c => (c.toNat : Int)).foldl (fun r n => r.push (UInt8.ofNat n.toNat)) s = ⟨s.data ++ l.toArray⟩
  | [], s => by simp
  | c :: l, s => by
    simp only [List.map_cons, List.foldl_cons]
    rw [fold_push l]
    simp [ByteArray.push, Array.append_assoc]

/-- the string of a slice of bytes -/
theorem bytes_str {A : Amb} {P : Program} {src dst e : TypeId} (hs : P.underlying src = some (.slice e)) (he : P.underlying e = some (.int .u8)) (hd : P.underlying dst = some .string) {h : Heap} {s : Sl} {l : List UInt8} {K : Value → Heap → Prop}
    (v : View ByteE h s l) (H : K (.string (strL l)) h) : RunK A P (convert src dst (.slice s.p s.len s.cap)) h K := by
  have hl := v.len
  refine fun n => ⟨_, h, n, ?_, H⟩
  rw [run_convert_bytes_string _ src dst e _ s.len s.cap hs he hd]
  cases hp : s.p with
  | none =>
    have hl0 : l = [] := by
      cases l with
      | nil => rfl
      | cons c l =>
        obtain ⟨a, ha, _⟩ := v.cells 0 c rfl
        rw [hp] at ha; cases ha
    subst hl0
    simp [Conv.bytesToString, strL]
    rfl
  | some a =>
    have h1 : (loadCells a s.len).run P (A.at h n) = .ok ((l.map fun c => (c.toNat : Int)).map (Value.int .u8)).toArray (A.at h n) := by
      have := run_loadCells_list (P := P) (w := A.at h n) a ((l.map fun c => (c.toNat : Int)).map (Value.int .u8)) (fun j u hj => by
        simp only [List.getElem?_map, Option.map_map, Option.map_eq_some_iff] at hj
        obtain ⟨c, hc, rfl⟩ := hj
        obtain ⟨a', ha, hcc⟩ := v.cells j c hc
        rw [hp] at ha
        cases ha
        have := Cells.byte hcc
        simp only [ByteE, Nat.mul_one] at this
        exact this)
      simpa [hl] using this
    rw [run_bytesToString _ a s.len s.cap _ h1, fold_push]
    simp [strL, ByteArray.empty, ByteArray.emptyWithCapacity]
    rfl

/-! ### parts of strings -/
theorem ext_list (s : ByteArray) (i j : Nat) : s.extract i j = strL ((s.data.toList.take j).drop i) := by
  apply ByteArray.ext
  rw [ByteArray.data_extract, strL]
  apply Array.toList_inj.1
  simp [Array.toList_extract, List.extract_eq_take_drop, List.drop_take]
theorem size_list (s : ByteArray) : s.data.toList.length = s.size := by rw [Array.length_toList]; rfl
theorem ext_drop (s : ByteArray) (i : Nat) : s.extract i s.size = strL (s.data.toList.drop i) := by
  rw [ext_list, List.take_of_length_le (by rw [size_list]; exact Nat.le_refl _)]
theorem ext_take (s : ByteArray) (i : Nat) : s.extract 0 i = strL (s.data.toList.take i) := by
  rw [ext_list]; simp

/-! ### bits -/
theorem wrap_u8 (n : Nat) : IntKind.wrap .u8 (n : Int) = ((n % 256 : Nat) : Int) := by
  simp [IntKind.wrap, IntKind.bits, IntKind.signed]
theorem or_u8 {a b : Nat} (ha : a < 256) (hb : b < 256) : bOr .u8 (a : Int) (b : Int) = ((a ||| b : Nat) : Int) := by
  have h : a ||| b < 2 ^ 8 := Nat.or_lt_two_pow (by simpa using ha) (by simpa using hb)
  unfold bOr
  have e : (BitVec.ofInt (IntKind.bits .u8) (a : Int) ||| BitVec.ofInt (IntKind.bits .u8) (b : Int)).toNat = a ||| b := by
    show (BitVec.ofInt 8 (a : Int) ||| BitVec.ofInt 8 (b : Int)).toNat = a ||| b
    rw [BitVec.ofInt_natCast, BitVec.ofInt_natCast, BitVec.toNat_or, BitVec.toNat_ofNat, BitVec.toNat_ofNat, Nat.mod_eq_of_lt (by simpa using ha), Nat.mod_eq_of_lt (by simpa using hb)]
  rw [e, wrap_u8, Nat.mod_eq_of_lt (by simpa using h)]
theorem and_u8 {a b : Nat} (ha : a < 256) (hb : b < 256) : bAnd .u8 (a : Int) (b : Int) = ((a &&& b : Nat) : Int) := by
  have h : a &&& b < 2 ^ 8 := Nat.lt_of_le_of_lt Nat.and_le_left (by simpa using ha)
  unfold bAnd
  have e : (BitVec.ofInt (IntKind.bits .u8) (a : Int) &&& BitVec.ofInt (IntKind.bits .u8) (b : Int)).toNat = a &&& b := by
    show (BitVec.ofInt 8 (a : Int) &&& BitVec.ofInt 8 (b : Int)).toNat = a &&& b
    rw [BitVec.ofInt_natCast, BitVec.ofInt_natCast, BitVec.toNat_and, BitVec.toNat_ofNat, BitVec.toNat_ofNat, Nat.mod_eq_of_lt (by simpa using ha), Nat.mod_eq_of_lt (by simpa using hb)]
  rw [e, wrap_u8, Nat.mod_eq_of_lt (by simpa using h)]
theorem and_u32 {a b : Nat} (ha : a < 4294967296) (hb : b < 4294967296) : bAnd .u32 (a : Int) (b : Int) = ((a &&& b : Nat) : Int) := by
  have h : a &&& b < 2 ^ 32 := Nat.lt_of_le_of_lt Nat.and_le_left (by simpa using ha)
  unfold bAnd
  have e : (BitVec.ofInt (IntKind.bits .u32) (a : Int) &&& BitVec.ofInt (IntKind.bits .u32) (b : Int)).toNat = a &&& b := by
    show (BitVec.ofInt 32 (a : Int) &&& BitVec.ofInt 32 (b : Int)).toNat = a &&& b
    rw [BitVec.ofInt_natCast, BitVec.ofInt_natCast, BitVec.toNat_and, BitVec.toNat_ofNat, BitVec.toNat_ofNat, Nat.mod_eq_of_lt (by simpa using ha), Nat.mod_eq_of_lt (by simpa using hb)]
  rw [e, wrap_u32, Nat.mod_eq_of_lt (by simpa using h)]
theorem and_u64 {a b : Nat} (ha : a < 18446744073709551616) (hb : b < 18446744073709551616) : bAnd .u64 (a : Int) (b : Int) = ((a &&& b : Nat) : Int) := by
  have h : a &&& b < 2 ^ 64 := Nat.lt_of_le_of_lt Nat.and_le_left (by simpa using ha)
  unfold bAnd
  have e : (BitVec.ofInt (IntKind.bits .u64) (a : Int) &&& BitVec.ofInt (IntKind.bits .u64) (b : Int)).toNat = a &&& b := by
    show (BitVec.ofInt 64 (a : Int) &&& BitVec.ofInt 64 (b : Int)).toNat = a &&& b
    rw [BitVec.ofInt_natCast, BitVec.ofInt_natCast, BitVec.toNat_and, BitVec.toNat_ofNat, BitVec.toNat_ofNat, Nat.mod_eq_of_lt (by simpa using ha), Nat.mod_eq_of_lt (by simpa using hb)]
  rw [e, wrap_u64, Nat.mod_eq_of_lt (by simpa using h)]
theorem or128 : ∀ x, x < 256 → x ||| 128 = x % 128 + 128 := by decide +kernel
theorem and127 : ∀ x, x < 256 → x &&& 127 = x % 128 := by decide +kernel
/-- a byte of a number, with the mark that more come -/
theorem put_byte (n : Nat) : bOr .u8 (IntKind.wrap .u8 (n : Int)) (128 : Int) = (((byteN (n % 128 + 128)).toNat : Nat) : Int) := by
  have h := or_u8 (a := n % 256) (b := 128) (Nat.mod_lt _ (by decide)) (by decide)
  rw [wrap_u8]
  rw [show (128 : Int) = ((128 : Nat) : Int) from rfl, h, or128 _ (Nat.mod_lt _ (by decide)), byteN_nat (by omega)]
  congr 1
  omega

theorem pow7 (i : Nat) : 2 ^ (7 * i) = 128 ^ i := by rw [Nat.pow_mul]
/-- one more byte of a number that is read -/
theorem step_or {a x i : Nat} (hi : i ≤ 9) (ha : a < 128 ^ i) (hx : x < 128) : bOr .u64 (a : Int) (((x * 128 ^ i % 18446744073709551616 : Nat)) : Int) = ((a + x * 128 ^ i % 18446744073709551616 : Nat) : Int) := by
  have hp : 0 < 128 ^ i := Nat.pow_pos (by decide)
  have h9 := pow128_le hi
  have e9 : (128 : Nat) ^ 9 = 9223372036854775808 := by decide
  rw [or_u64 (by omega) (Nat.mod_lt _ (by decide))]
  congr 1
  have e2 : ∃ q, (18446744073709551616 : Nat) = 128 ^ i * q := by
    have : i = 0 ∨ i = 1 ∨ i = 2 ∨ i = 3 ∨ i = 4 ∨ i = 5 ∨ i = 6 ∨ i = 7 ∨ i = 8 ∨ i = 9 := by omega
    refine ⟨18446744073709551616 / 128 ^ i, ?_⟩
    rcases this with rfl | rfl | rfl | rfl | rfl | rfl | rfl | rfl | rfl | rfl <;> decide
  obtain ⟨q, e2⟩ := e2
  rw [e2, Nat.mul_comm x, Nat.mul_mod_mul_left, ← pow7, Nat.or_comm, Nat.add_comm]
  exact (Nat.two_pow_add_eq_or_of_lt (by rw [pow7]; exact ha) _).symm

theorem shift7 {x i : Nat} (hi : i ≤ 9) (hx : x < 128) : IntKind.wrap .u64 (((x : Nat) : Int) * ((2 : Int) ^ (min ((7 * i : Nat) : Int).toNat (IntKind.bits .u64)))) = ((x * 128 ^ i % 18446744073709551616 : Nat) : Int) := by
  have e : min ((7 * i : Nat) : Int).toNat (IntKind.bits .u64) = 7 * i := by
    have : IntKind.bits .u64 = 64 := rfl
    omega
  rw [e, show ((2 : Int) ^ (7 * i)) = ((2 ^ (7 * i) : Nat) : Int) by simp, mulc, wrap_u64, pow7]

/-- what came to be behind h may be changed -/
theorem Mod.more {h h1 h2 : Heap} {S : Nat → Prop} (x : Ext h h1) (m : Mod S h1 h2) (hS : ∀ b, S b → h.size ≤ b) : Ext h h2 :=
  Mod.then x (m.weak fun c _ hc => .inr (hS c hc))
end Go.Lf
