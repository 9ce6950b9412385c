/-
  Contracts: readers of bytes (chapter 1), sums and frames (chapter 2).
-/
import Derived.Test.YtbbikicpamgbmaaGreatDoorLfU2ToV1
import Derived.Shelf.Strings.Repeat
import Derived.Shelf.Small.Wraps
import Derived.Shelf.Pu.ParseUintPublic10
import Derived.Shelf.Strconv.Itoa3
import Derived.Test.YtbbikicpamgbmaaGreatDoorProg
set_option maxRecDepth 100000
set_option linter.unusedVariables false
set_option linter.unusedSimpArgs false
namespace Go.Lf.G
open Go

theorem atI {a : Addr} {K : Addr → Prop} (h : K a) : At (some a) K := h
theorem Store.mk1 {h : Heap} {b j : Nat} {v : Value} {cs : Array Value} {T : TypeId} {K : Heap → Prop} (hb : h[b]? = some (.cells cs T (0, 0))) (hj : j < cs.size)
    (H : ∀ h', h'[b]? = some (.cells (cs.setIfInBounds j v) T (0, 0)) → Mod (· = b) h h' → h'.size = h.size → K h') : Store h ((⟨b, 0, none⟩ : Addr).add j) v K := by
  rw [add_mk, Nat.zero_add]; exact Store.mk hb hj H
theorem max_i64 : IntKind.max .i64 = 9223372036854775807 := by simp [IntKind.max, IntKind.bits, IntKind.signed]
theorem wrap_i64 {n : Int} (h1 : -9223372036854775808 ≤ n) (h2 : n ≤ 9223372036854775807) : IntKind.wrap .i64 n = n := by
  simp only [IntKind.wrap, IntKind.bits, IntKind.signed]
  simp
  omega
theorem wrap_u64n {n : Nat} (h : n < 18446744073709551616) : IntKind.wrap .u64 (n : Int) = (n : Int) := by rw [wrap_u64, Nat.mod_eq_of_lt h]
abbrev ptrV (b : Nat) : Value := .pointer (some ⟨b, 0, none⟩)

theorem strL_nil : strL [] = ⟨#[]⟩ := rfl
theorem strL_size' (l : List UInt8) : (strL l).size = l.length := strL_size l
theorem strL_take (l : List UInt8) (n : Nat) : (strL l).extract 0 n = strL (l.take n) := by rw [ext_take, strL_list]
theorem strL_drop (l : List UInt8) (n : Nat) : (strL l).extract n (strL l).size = strL (l.drop n) := by rw [ext_drop, strL_list]
theorem strL_mid (l : List UInt8) (i j : Nat) : (strL l).extract i j = strL ((l.take j).drop i) := by rw [ext_list, strL_list]
theorem strL_app (a b : List UInt8) : strL a ++ strL b = strL (a ++ b) := by
  apply ByteArray.ext
  simp [strL, ByteArray.data_append]

theorem wrap_most {m : Nat} (h : m ≤ 9223372036854775807) : IntKind.wrap .u64 (m : Int) = (m : Int) := wrap_u64n (by omega)
/-! ### sums and frames -/
theorem crc_step {c : Nat} (hc : c < 4294967296) : bXor .u32 ((c : Int).fdiv ((2 : Int) ^ (1 : Nat))) (bAnd .u32 (3988292384 : Int) (IntKind.wrap .u32 (0 - (bAnd .u32 (c : Int) (1 : Int))))) = ((crcBit c : Nat) : Int) := by
  have h1 : bAnd .u32 (c : Int) (1 : Int) = ((c % 2 : Nat) : Int) := by
    have := and_u32 (a := c) (b := 1) hc (by decide)
    rw [Nat.and_one_is_mod] at this
    exact this
  rw [fdiv_nat c 1, h1]
  unfold crcBit
  have hd : c / 2 ^ 1 < 4294967296 := by omega
  by_cases ho : c % 2 = 1
  · rw [if_pos ho, ho]
    have e : IntKind.wrap .u32 (0 - ((1 : Nat) : Int)) = ((4294967295 : Nat) : Int) := by decide
    have e2 : bAnd .u32 (3988292384 : Int) ((4294967295 : Nat) : Int) = ((3988292384 : Nat) : Int) := by decide
    rw [e, e2, xor_u32 hd (by decide)]
  · rw [if_neg ho, show c % 2 = 0 by omega]
    have e : IntKind.wrap .u32 (0 - ((0 : Nat) : Int)) = ((0 : Nat) : Int) := by decide
    have e2 : bAnd .u32 (3988292384 : Int) ((0 : Nat) : Int) = ((0 : Nat) : Int) := by decide
    rw [e, e2, xor_u32 hd (by decide)]
    simp
theorem crc_not {c : Nat} (hc : c < 4294967296) : bXor .u32 (if IntKind.signed .u32 then -1 else IntKind.max .u32) (c : Int) = ((4294967295 - c : Nat) : Int) := by
  have e : (if IntKind.signed .u32 then -1 else IntKind.max .u32) = ((4294967295 : Nat) : Int) := by decide
  rw [e, xor_u32 (by decide) hc]
  congr 1
  have e1 : 4294967295 - c = 2 ^ 32 - (c + 1) := by omega
  have e2 : (4294967295 : Nat) = 2 ^ 32 - 1 := by decide
  have hc' : c < 2 ^ 32 := by omega
  rw [e1, e2]
  apply Nat.eq_of_testBit_eq
  intro i
  rw [Nat.testBit_xor, Nat.testBit_two_pow_sub_one, Nat.testBit_two_pow_sub_succ hc']
  by_cases hi : i < 32
  · simp [hi]
  · have : c.testBit i = false := Nat.testBit_lt_two_pow (Nat.lt_of_lt_of_le hc' (Nat.pow_le_pow_right (by decide) (by omega)))
    simp [hi, this]
theorem fSum_ok {A : Amb} {h : Heap} {l : List UInt8} {R : Value → Heap → Prop} (hl : l.length ≤ 1099511627776) (H : R (.int .u32 (crcL l : Int)) h) : HCalls A P f_frame_Sum #[.string (strL l)] h R := by
  refine ok_frame_Sum ?_
  unfold F_frame_Sum
  rw [strL_size]
  refine Loop.rule (fun m x hh => ∃ i : Nat, x = ((crcF (l.take i) : Int), (i : Int), ()) ∧ hh = h ∧ m = l.length - i ∧ i ≤ l.length) ?_ ⟨0, rfl, rfl, rfl, by omega⟩
  rintro K m _ hh ⟨i, rfl, e, rfl, hi⟩ hK
  subst hh
  refine PIf.intro (fun hq => ?_) (fun hq => ?_)
  · have hil : i < l.length := by simpa using hq
    obtain ⟨c, hc⟩ : ∃ c, l[i]? = some c := ⟨_, List.getElem?_eq_getElem hil⟩
    have hc256 : c.toNat < 256 := c.toNat_lt
    refine ⟨⟨by dsimp only; omega, by dsimp only; omega⟩, ?_⟩
    have hlt := crcF_lt (l.take i)
    dsimp only
    rw [sAt_nat (c := c) (by rw [strL_list]; exact hc), wrap_u32, Nat.mod_eq_of_lt (show c.toNat < 4294967296 by omega), xor_u32 hlt (by omega)]
    have hx : crcF (l.take i) ^^^ c.toNat < 4294967296 := Nat.xor_lt_two_pow (n := 32) hlt (by omega)
    refine Loop.rule (fun m x hh => ∃ k : Nat, x = ((crcIt k (crcF (l.take i) ^^^ c.toNat) : Int), (k : Int), ()) ∧ hh = h ∧ m = 8 - k ∧ k ≤ 8) ?_ ⟨0, rfl, rfl, rfl, by omega⟩
    rintro K1 m1 _ hh ⟨k, rfl, e, rfl, hk⟩ hK1
    subst hh
    refine PIf.intro (fun hq2 => ?_) (fun hq2 => ?_)
    · have hk8 : k < 8 := by simp at hq2; omega
      dsimp only
      rw [crc_step (crcIt_lt hx k), wrap_succ (by omega)]
      exact hK1 (8 - (k + 1)) _ _ (by omega) ⟨k + 1, rfl, rfl, rfl, hk8⟩
    · have hk8 : k = 8 := by simp at hq2; omega
      subst hk8
      dsimp only
      rw [wrap_succ (by omega)]
      refine hK (l.length - (i + 1)) _ _ (by omega) ⟨i + 1, ?_, rfl, rfl, hil⟩
      rw [List.take_add_one, hc, Option.toList_some, crcF_snoc]
      rfl
  · have hil : i = l.length := by simp at hq; omega
    have e : l.take i = l := List.take_of_length_le (by omega)
    dsimp only
    rw [e, crc_not (crcF_lt l)]
    exact H

theorem mark_byte (n k : Nat) : IntKind.wrap .u8 ((n : Int).fdiv ((2 : Int) ^ k)) = (((byteN (n / 2 ^ k % 256)).toNat : Nat) : Int) := by
  rw [fdiv_nat, wrap_u8, byteN_nat (Nat.mod_lt _ (by decide))]
theorem fmark_ok {A : Amb} {h : Heap} {n : Nat} {R : Value → Heap → Prop} (H : ∀ h', Ext h h' → R (.string (strL (markL n))) h') : HCalls A P f_frame_mark #[.int .u32 (n : Int)] h R := by
  refine ok_frame_mark ?_
  unfold F_frame_mark
  refine New.mk fun h1 _ hb x _ => ?_
  have e0 : IntKind.wrap .u8 (n : Int) = (((byteN (n % 256)).toNat : Nat) : Int) := by rw [wrap_u8, byteN_nat (Nat.mod_lt _ (by decide))]
  rw [mark_byte, mark_byte, mark_byte, e0] at hb
  have o : Own ByteE t_uint8 h1 ⟨some ⟨h.size, 0, none⟩, 4, 4⟩ (markL n) := Own.lit (E := ByteE) (l := markL n) hb rfl (by simp [maxLen, markL])
  exact bytes_str (s := ⟨some ⟨h.size, 0, none⟩, 4, 4⟩) P_slu8 P_u8 P_str o.view ⟨_, rfl, H _ x⟩

theorem fWrap_ok {A : Amb} {h : Heap} {l : List UInt8} {R : Value → Heap → Prop} (hl : l.length ≤ 1099511627776) (H1 : 1048576 < l.length → R (.tuple #[.string ⟨#[]⟩, .int .i64 2]) h)
    (H : l.length ≤ 1048576 → ∀ h', Ext h h' → R (.tuple #[.string (strL (wrapL l)), .int .i64 0]) h') : HCalls A P f_frame_Wrap #[.string (strL l)] h R := by
  refine ok_frame_Wrap ?_
  unfold F_frame_Wrap
  rw [strL_size]
  refine PIf.intro (fun hq => H1 (by simp at hq; omega)) (fun hq => ?_)
  have hlen : l.length ≤ 1048576 := by simp at hq; omega
  have := putV_len10 (n := l.length) (by omega)
  rw [wrap_u64n (by omega)]
  refine vPut_ok (by omega) fun h1 x1 => ⟨_, rfl, ?_⟩
  refine fSum_ok hl ⟨_, rfl, ?_⟩
  refine fmark_ok fun h2 x2 => ⟨_, rfl, ⟨?_, ?_, ?_⟩⟩
  · rw [strL_size, strL_size, max_i64, markL_len]; omega
  · rw [strL_app, strL_size, max_i64, List.length_append, markL_len]; omega
  · rw [strL_app, strL_app]
    exact H hlen _ (x1.trans x2)
theorem fNext_ok {A : Amb} {h : Heap} {l : List UInt8} {R : Value → Heap → Prop} (hl : l.length ≤ 1099511627776)
    (H : ∀ h', Ext h h' → R (.tuple #[.string (strL (nextL l).2.1), .string (strL (nextL l).2.2), .int .i64 ((nextL l).1 : Int)]) h') : HCalls A P f_frame_Next #[.string (strL l)] h R := by
  refine ok_frame_Next ?_
  unfold F_frame_Next
  rw [strL_size]
  have H0 := H h Mod.refl
  refine vGet_ok (by rw [strL_size]; exact hl) (fun hn => ⟨_, _, _, rfl, ?_⟩) (fun n t hn => ⟨_, _, _, rfl, ?_⟩) <;> rw [strL_list] at hn
  · have hnx : nextL l = if l.length < 10 ∧ ∀ c ∈ l, 128 ≤ c.toNat then (20, [], []) else (21, [], []) := by unfold nextL; rw [hn]
    rw [hnx] at H0
    refine Join.mk fun K hK => PIf.yes rfl (hK _ _ ?_)
    refine PIf.intro (fun hq => ?_) (fun hq => ?_)
    · have h10 : l.length < 10 := by simp at hq; omega
      refine Loop.rule (fun m x hh => ∃ i : Nat, x = ((i : Int), ()) ∧ hh = h ∧ m = l.length - i ∧ i ≤ l.length ∧ ∀ c ∈ l.take i, 128 ≤ c.toNat) ?_ ⟨0, rfl, rfl, rfl, by omega, by simp⟩
      rintro K1 m _ hh ⟨i, rfl, e, rfl, hi, hall⟩ hK1
      subst hh
      refine PIf.intro (fun hq2 => ?_) (fun hq2 => ?_)
      · have hil : i < l.length := by simpa using hq2
        obtain ⟨c, hc⟩ : ∃ c, l[i]? = some c := ⟨_, List.getElem?_eq_getElem hil⟩
        refine ⟨⟨by dsimp only; omega, by dsimp only; omega⟩, ?_⟩
        dsimp only
        rw [sAt_nat (c := c) (by rw [strL_list]; exact hc)]
        refine PIf.intro (fun hq3 => ?_) (fun hq3 => ?_)
        · rw [if_neg] at H0
          · exact H0
          · rintro ⟨_, h2⟩
            have := h2 c (List.mem_of_getElem? hc)
            simp at hq3; omega
        · rw [wrap_succ (by omega)]
          refine hK1 (l.length - (i + 1)) _ _ (by omega) ⟨i + 1, rfl, rfl, rfl, hil, fun x hx => ?_⟩
          rw [List.take_add_one, hc, Option.toList_some] at hx
          rcases List.mem_append.1 hx with hx | hx
          · exact hall x hx
          · simp at hx; subst hx; simp at hq3; omega
      · have hil : i = l.length := by simp at hq2; omega
        rw [List.take_of_length_le (by omega)] at hall
        rw [if_pos ⟨h10, hall⟩] at H0
        exact H0
    · have h10 : ¬ l.length < 10 := by simp at hq; omega
      rw [if_neg (fun hh => h10 hh.1)] at H0
      refine Join.mk fun K2 hK2 => PIf.yes rfl (hK2 _ _ (PIf.yes rfl H0))
  · obtain ⟨el, hn64⟩ := getV0 hn
    have htl : t.length ≤ 1099511627776 := by rw [el] at hl; simp at hl; omega
    have hnx : nextL l = if 1048576 < n then (21, [], []) else if t.length < 4 + n then (20, [], [])
        else if t.take 4 = markL (crcL ((t.drop 4).take n)) then (0, (t.drop 4).take n, t.drop (4 + n)) else (21, [], []) := by unfold nextL; rw [hn]
    rw [hnx] at H0 H
    refine Join.mk fun K hK => PIf.no rfl (hK _ _ (PIf.no rfl ?_))
    refine Join.mk fun K2 hK2 => PIf.no rfl (hK2 _ _ ?_)
    refine PIf.intro (fun hq => ?_) (fun hq => ?_)
    · have h1 : 1048576 < n := by simp at hq; omega
      rw [if_pos h1] at H0
      exact H0
    have h1 : ¬ 1048576 < n := by simp at hq; omega
    rw [if_neg h1] at H0 H
    rw [strL_size]
    refine Join.mk fun K3 hK3 => ?_
    have key : ∀ bb : Bool, (bb = true ↔ t.length < 4 + n) → K3 (bb, ()) h := fun bb hbb => by
      refine hK3 _ _ ?_
      refine PIf.intro (fun hq => ?_) (fun hq => ?_)
      · rw [if_pos (hbb.1 hq)] at H0
        exact H0
      have h2 : ¬ t.length < 4 + n := fun hh => by have hq : bb = false := hq; rw [hbb.2 hh] at hq; cases hq
      rw [if_neg h2] at H0 H
      have e4 : IntKind.wrap .u64 ((4 : Int) + (n : Int)) = ((4 + n : Nat) : Int) := by rw [show (4 : Int) + (n : Int) = ((4 + n : Nat) : Int) by simp]; exact wrap_u64n (by omega)
      rw [e4]
      refine ⟨⟨by omega, by omega⟩, ⟨by omega, by omega⟩, ⟨by omega, by omega⟩, ?_⟩
      have eb : (strL t).extract (4 : Int).toNat ((4 + n : Nat) : Int).toNat = strL ((t.drop 4).take n) := by
        rw [show (4 : Int).toNat = 4 from rfl, Int.toNat_natCast, strL_mid, List.drop_take]; congr 2; omega
      have em : (strL t).extract 0 (4 : Int).toNat = strL (t.take 4) := strL_take _ _
      have er : (strL t).extract ((4 + n : Nat) : Int).toNat (strL t).size = strL (t.drop (4 + n)) := by rw [Int.toNat_natCast, strL_drop]
      rw [strL_size] at er
      rw [eb, em, er]
      refine fSum_ok (by simp; omega) ⟨_, rfl, ?_⟩
      refine fmark_ok fun h2 x2 => ⟨_, rfl, ?_⟩
      have H2 := H h2 x2
      rw [sEq_iff]
      refine PIf.intro (fun hq => ?_) (fun hq => ?_)
      · rw [if_neg (by simp [strL_inj] at hq; exact hq)] at H2
        exact H2
      · rw [if_pos (by simp [strL_inj] at hq; exact hq)] at H2
        exact ⟨⟨by omega, by omega⟩, H2⟩
    refine PIf.intro (fun hq => key _ ⟨fun _ => by simp at hq; omega, fun _ => rfl⟩) (fun hq => key _ ?_)
    have h4 : 4 ≤ t.length := by simp at hq; omega
    have e1 : IntKind.wrap .u64 (IntKind.wrap .i64 ((t.length : Int) - (4 : Int))) = ((t.length - 4 : Nat) : Int) := by
      rw [show (t.length : Int) - (4 : Int) = ((t.length - 4 : Nat) : Int) by omega, wrap_nat (by omega), wrap_u64n (by omega)]
    rw [e1]
    simp
    omega
end Go.Lf.G

/-
  Contracts: the box (chapter 3): its state in memory; its small methods; Append, Sync, Read, Delete.
-/
set_option maxRecDepth 100000
set_option linter.unusedVariables false
set_option linter.unusedSimpArgs false
namespace Go.Lf.G
open Go

theorem LoadM.mk {h : Heap} {a : Addr} {K : Option Nat → Prop} {n : Option Nat} (hv : hget h a = some (.map n)) (H : K n) : LoadM h a K := ⟨n, hv, H⟩
theorem P_mpf : P.underlying t_map_string_p_box_file = some (.map t_string t_p_box_file) := by kernel_rfl
theorem P_zpf : (zeroValue t_p_box_file).calc P = some (.pointer none) := by kernel_rfl

abbrev kvM (kv : List (Fi × Nat)) : List (ByteArray × Value) := kv.map fun p => (p.1.name, ptrV p.2)

structure BoxAt (h : Heap) (b r : Nat) (kv : List (Fi × Nat)) (m : Bx) : Prop where
  head : h[b]? = some (.cells #[.map (some r), .int .i64 m.fuel, .bool m.down] t_box_Box (0, 0))
  map : MapS h r (kvM kv)
  cells : ∀ p ∈ kv, h[p.2]? = some (.cells #[.string p.1.firm, .string p.1.soft] t_box_file (0, 0))
  perm : (kv.map (·.1)).Perm m.files
  nodup : (kv.map (·.2)).Nodup
  good : GoodB m

def footB (b r : Nat) (kv : List (Fi × Nat)) (c : Nat) : Prop := c = b ∨ c = r ∨ ∃ p ∈ kv, p.2 = c
def IsBox (h : Heap) (b : Nat) (S : Nat → Prop) (m : Bx) : Prop := ∃ r kv, BoxAt h b r kv m ∧ ∀ c, S c ↔ footB b r kv c

theorem BoxAt.ne_br {h : Heap} {b r : Nat} {kv : List (Fi × Nat)} {m : Bx} (B : BoxAt h b r kv m) : r ≠ b := by
  rintro rfl
  obtain ⟨es, cl, hr, _⟩ := B.map
  rw [B.head] at hr; cases hr
theorem BoxAt.ne_pb {h : Heap} {b r : Nat} {kv : List (Fi × Nat)} {m : Bx} (B : BoxAt h b r kv m) {p : Fi × Nat} (hp : p ∈ kv) : p.2 ≠ b ∧ p.2 ≠ r := by
  have h1 := B.cells p hp
  constructor
  · intro e; rw [e, B.head] at h1; cases h1
  · intro e
    obtain ⟨es, cl, hr, _⟩ := B.map
    rw [e, hr] at h1; cases h1
theorem BoxAt.lt {h : Heap} {b r : Nat} {kv : List (Fi × Nat)} {m : Bx} (B : BoxAt h b r kv m) {c : Nat} (hc : footB b r kv c) : c < h.size := by
  rcases hc with rfl | rfl | ⟨p, hp, rfl⟩
  · exact blk_lt B.head
  · exact B.map.lt
  · exact blk_lt (B.cells p hp)
theorem IsBox.lt {h : Heap} {b : Nat} {S : Nat → Prop} {m : Bx} (B : IsBox h b S m) {c : Nat} (hc : S c) : c < h.size := by
  obtain ⟨r, kv, B, hS⟩ := B
  exact B.lt ((hS c).1 hc)
theorem IsBox.good {h : Heap} {b : Nat} {S : Nat → Prop} {m : Bx} (B : IsBox h b S m) : GoodB m := by
  obtain ⟨r, kv, B, hS⟩ := B; exact B.good
theorem IsBox.self {h : Heap} {b : Nat} {S : Nat → Prop} {m : Bx} (B : IsBox h b S m) : S b := by
  obtain ⟨r, kv, B, hS⟩ := B; exact (hS b).2 (.inl rfl)
theorem BoxAt.mod {h h' : Heap} {b r : Nat} {kv : List (Fi × Nat)} {m : Bx} {T : Nat → Prop} (B : BoxAt h b r kv m) (x : Mod T h h') (hT : ∀ c, footB b r kv c → ¬ T c) : BoxAt h' b r kv m :=
  ⟨x.blk B.head (hT _ (.inl rfl)), B.map.mod x (hT _ (.inr (.inl rfl))), fun p hp => x.blk (B.cells p hp) (hT _ (.inr (.inr ⟨p, hp, rfl⟩))), B.perm, B.nodup, B.good⟩
theorem IsBox.mod {h h' : Heap} {b : Nat} {S T : Nat → Prop} {m : Bx} (B : IsBox h b S m) (x : Mod T h h') (hT : ∀ c, S c → ¬ T c) : IsBox h' b S m := by
  obtain ⟨r, kv, B, hS⟩ := B
  exact ⟨r, kv, B.mod x fun c hc => hT c ((hS c).2 hc), hS⟩
theorem IsBox.ext {h h' : Heap} {b : Nat} {S : Nat → Prop} {m : Bx} (B : IsBox h b S m) (x : Ext h h') : IsBox h' b S m := B.mod x fun _ _ h => h
theorem BoxAt.hd {h h' : Heap} {b r : Nat} {kv : List (Fi × Nat)} {m m' : Bx} (B : BoxAt h b r kv m) (hb : h'[b]? = some (.cells #[.map (some r), .int .i64 m'.fuel, .bool m'.down] t_box_Box (0, 0))) (x : Mod (· = b) h h') (hf : m'.files = m.files) (g : GoodB m') : BoxAt h' b r kv m' :=
  ⟨hb, B.map.mod x B.ne_br, fun p hp => x.blk (B.cells p hp) (B.ne_pb hp).1, by rw [hf]; exact B.perm, B.nodup, g⟩

/-! ### names -/
theorem look_kv (k : ByteArray) : ∀ kv : List (Fi × Nat), lookM k (kvM kv) = (kv.find? fun p => decide (p.1.name = k)).map fun p => ptrV p.2
  | [] => rfl
  | p :: kv => by
    show lookM k ((p.1.name, ptrV p.2) :: kvM kv) = _
    rw [lookM_cons, look_kv k kv, List.find?_cons]
    by_cases h : p.1.name = k <;> simp [h]
theorem BoxAt.mem {h : Heap} {b r : Nat} {kv : List (Fi × Nat)} {m : Bx} (B : BoxAt h b r kv m) {f : Fi} : f ∈ m.files ↔ ∃ c, (f, c) ∈ kv := by
  rw [← B.perm.mem_iff]
  constructor
  · intro h; obtain ⟨p, hp, rfl⟩ := List.mem_map.1 h; exact ⟨p.2, hp⟩
  · rintro ⟨c, hc⟩; exact List.mem_map.2 ⟨_, hc, rfl⟩
theorem BoxAt.look {h : Heap} {b r : Nat} {kv : List (Fi × Nat)} {m : Bx} (B : BoxAt h b r kv m) (k : ByteArray) :
    (lookM k (kvM kv) = none ∧ findF k m.files = none) ∨ ∃ p ∈ kv, lookM k (kvM kv) = some (ptrV p.2) ∧ findF k m.files = some p.1 ∧ p.1.name = k := by
  rw [look_kv]
  cases hf : kv.find? fun p => decide (p.1.name = k) with
  | none =>
    refine .inl ⟨rfl, findF_none' fun f hm => ?_⟩
    obtain ⟨c, hc⟩ := B.mem.1 hm
    rw [List.find?_eq_none] at hf
    simpa using hf _ hc
  | some p =>
    have h1 : p.1.name = k := by simpa using List.find?_some hf
    have h2 := List.mem_of_find?_eq_some hf
    refine .inr ⟨p, h2, rfl, ?_, h1⟩
    rw [← h1]
    exact B.good.sorted.find (B.mem.2 ⟨p.2, h2⟩)
theorem SortedF.uniq {l : List Fi} (s : SortedF l) {x y : Fi} (hx : x ∈ l) (hy : y ∈ l) (h : x.name = y.name) : x = y := by
  have h1 := s.find hx
  rw [h, s.find hy] at h1
  exact (Option.some.inj h1).symm
theorem names_nodup {kv : List (Fi × Nat)} {l : List Fi} (p : (kv.map (·.1)).Perm l) (s : SortedF l) : (kv.map fun q => q.1.name).Nodup := by
  have h1 : (l.map (·.name)).Nodup := by
    refine List.pairwise_map.2 (s.imp fun h => lt_ne h)
  have h2 : (kv.map fun q => q.1.name).Perm (l.map (·.name)) := by
    have := p.map (·.name)
    simpa [List.map_map, Function.comp_def] using this
  exact (h2.nodup_iff).2 h1
theorem BoxAt.inj {h : Heap} {b r : Nat} {kv : List (Fi × Nat)} {m : Bx} (B : BoxAt h b r kv m) {p q : Fi × Nat} (hp : p ∈ kv) (hq : q ∈ kv) (e : p.1.name = q.1.name) : p = q := by
  have hn := names_nodup B.perm B.good.sorted
  obtain ⟨i, hi, rfl⟩ := List.getElem_of_mem hp
  obtain ⟨j, hj, rfl⟩ := List.getElem_of_mem hq
  have : i = j := by
    have hi' : i < (kv.map fun q => q.1.name).length := by simpa using hi
    have hj' : j < (kv.map fun q => q.1.name).length := by simpa using hj
    refine (List.getElem_inj (h₀ := hi') (h₁ := hj') hn).1 ?_
    simpa using e
  subst this; rfl

/-- a file's cells have changed -/
theorem BoxAt.set {h h' : Heap} {b r : Nat} {kv : List (Fi × Nat)} {m : Bx} (B : BoxAt h b r kv m) {p : Fi × Nat} (hp : p ∈ kv) {g : Fi → Fi} (hg : ∀ f, (g f).name = f.name)
    (hc : h'[p.2]? = some (.cells #[.string (g p.1).firm, .string (g p.1).soft] t_box_file (0, 0))) (x : Mod (· = p.2) h h') (gd : GoodB { m with files := updF p.1.name g m.files }) :
    BoxAt h' b r (kv.map fun q => (if q.1.name = p.1.name then g q.1 else q.1, q.2)) { m with files := updF p.1.name g m.files } := by
  refine ⟨x.blk B.head (B.ne_pb hp).1.symm, ?_, ?_, ?_, ?_, gd⟩
  · have e : kvM (kv.map fun q => (if q.1.name = p.1.name then g q.1 else q.1, q.2)) = kvM kv := by
      simp only [kvM, List.map_map]
      refine List.map_congr_left fun q _ => ?_
      simp only [Function.comp]
      split <;> simp [hg]
    rw [e]
    exact B.map.mod x (B.ne_pb hp).2.symm
  · intro q hq
    obtain ⟨q', hq', rfl⟩ := List.mem_map.1 hq
    simp only
    by_cases e : q'.1.name = p.1.name
    · rw [if_pos e]
      have := B.inj hq' hp e
      subst this
      exact hc
    · rw [if_neg e]
      refine x.blk (B.cells q' hq') fun e2 => e ?_
      have hn := B.nodup
      obtain ⟨i, hi, rfl⟩ := List.getElem_of_mem hp
      obtain ⟨j, hj, rfl⟩ := List.getElem_of_mem hq'
      have : j = i := by
        have hi' : i < (kv.map (·.2)).length := by simpa using hi
        have hj' : j < (kv.map (·.2)).length := by simpa using hj
        refine (List.getElem_inj (h₀ := hj') (h₁ := hi') hn).1 ?_
        simpa using e2
      subst this; rfl
  · have h1 := B.perm.map fun f => if f.name = p.1.name then g f else f
    simpa [updF, List.map_map, Function.comp_def] using h1
  · simpa [List.map_map, Function.comp_def] using B.nodup
theorem foot_set {b r : Nat} {kv : List (Fi × Nat)} {g : Fi × Nat → Fi} (c : Nat) : footB b r (kv.map fun q => (g q, q.2)) c ↔ footB b r kv c := by
  unfold footB
  constructor
  · rintro (h | h | ⟨p, hp, rfl⟩)
    · exact .inl h
    · exact .inr (.inl h)
    · obtain ⟨q, hq, rfl⟩ := List.mem_map.1 hp
      exact .inr (.inr ⟨q, hq, rfl⟩)
  · rintro (h | h | ⟨p, hp, rfl⟩)
    · exact .inl h
    · exact .inr (.inl h)
    · exact .inr (.inr ⟨_, List.mem_map.2 ⟨p, hp, rfl⟩, rfl⟩)

theorem updM_new {k : ByteArray} {v : Value} : ∀ {m : List (ByteArray × Value)}, lookM k m = none → updM k v m = m ++ [(k, v)]
  | [], _ => rfl
  | p :: m, h => by
    rw [lookM_cons] at h
    split at h
    · cases h
    · rename_i hk
      unfold updM
      rw [if_neg hk, updM_new h]; rfl

/-! ### the small methods -/
theorem off_ok {A : Amb} {h : Heap} {b : Nat} {c0 c1 : Value} {down : Bool} {T : TypeId} {R : Value → Heap → Prop} (hb : h[b]? = some (.cells #[c0, c1, .bool down] T (0, 0))) (H : R (.bool down) h) :
    HCalls A P f_box_Box_off #[ptrV b] h R := by
  refine ok_box_Box_off ?_
  unfold F_box_Box_off
  exact PIf.no rfl (atI (LoadB.mk (hget_lit1 hb rfl) H))
theorem off_nil {A : Amb} {h : Heap} {R : Value → Heap → Prop} (H : R (.bool true) h) : HCalls A P f_box_Box_off #[.pointer none] h R := by
  refine ok_box_Box_off ?_
  unfold F_box_Box_off
  exact PIf.yes rfl H
theorem wrong_ok {A : Amb} {h : Heap} {name : ByteArray} {R : Value → Heap → Prop} (H : R (.bool (badName name)) h) : HCalls A P f_box_wrong #[.string name] h R := by
  refine ok_box_wrong ?_
  unfold F_box_wrong
  unfold badName at H
  rw [sEq_iff]
  refine PIf.intro (fun hq => ?_) (fun hq => ?_)
  · rw [hq] at H; exact H
  · rw [hq] at H
    have e : decide ((name.size : Int) > (32 : Int)) = decide (name.size > 32) := by rw [decide_eq_decide]; omega
    rw [e]; simpa using H

def burnF (fuel : Int) : Int := if fuel > 0 then fuel - 1 else fuel
theorem burn_ok {A : Amb} {h : Heap} {b : Nat} {c0 : Value} {fuel : Int} {down : Bool} {T : TypeId} {R : Value → Heap → Prop} (hb : h[b]? = some (.cells #[c0, .int .i64 fuel, .bool down] T (0, 0))) (lo : -1 ≤ fuel) (hi : fuel ≤ 9223372036854775807)
    (H1 : fuel = 0 → ∀ h', h'[b]? = some (.cells #[c0, .int .i64 fuel, .bool true] T (0, 0)) → Mod (· = b) h h' → h'.size = h.size → R (.bool false) h')
    (H2 : fuel ≠ 0 → ∀ h', h'[b]? = some (.cells #[c0, .int .i64 (burnF fuel), .bool down] T (0, 0)) → Mod (· = b) h h' → h'.size = h.size → R (.bool true) h') : HCalls A P f_box_Box_burn #[ptrV b] h R := by
  refine ok_box_Box_burn ?_
  unfold F_box_Box_burn
  refine atI (LoadI.mk (hget_lit1 hb rfl) ?_)
  refine PIf.intro (fun hq => ?_) (fun hq => ?_)
  · refine atI (Store.mk1 hb (by simp) fun h1 hb1 m1 hs1 => ?_)
    exact H1 (by simpa using hq) h1 (by simpa using hb1) m1 hs1
  · have hq : fuel ≠ 0 := by simpa using hq
    have H2 := H2 hq
    unfold burnF at H2
    refine Join.mk fun K hK => ?_
    refine atI (LoadI.mk (hget_lit1 hb rfl) ?_)
    refine PIf.intro (fun hq => ?_) (fun hq => ?_)
    · have hp : fuel > 0 := by simpa using hq
      rw [if_pos hp] at H2
      refine atI (LoadI.mk (hget_lit1 hb rfl) (atI (Store.mk1 hb (by simp) fun h1 hb1 m1 hs1 => hK _ _ ?_)))
      rw [wrap_i64 (by omega) (by omega)] at hb1
      exact H2 h1 (by simpa using hb1) m1 hs1
    · have hp : ¬ fuel > 0 := by simpa using hq
      rw [if_neg hp] at H2
      exact hK _ _ (H2 h hb Mod.refl rfl)

theorem tick_fuel (m : Bx) : (tickB m).fuel = burnF m.fuel ∧ (tickB m).down = m.down ∧ (tickB m).files = m.files := by
  unfold tickB burnF; split <;> simp
theorem goodB_tick {m : Bx} (g : GoodB m) : GoodB (tickB m) := by
  have := g.tick m.files g.sorted g.names g.wt
  rwa [← (tick_fuel m).2.2] at this
theorem BoxAt.burn {A : Amb} {h : Heap} {b r : Nat} {kv : List (Fi × Nat)} {m : Bx} (B : BoxAt h b r kv m) {R : Value → Heap → Prop}
    (H1 : m.fuel = 0 → ∀ h', BoxAt h' b r kv (offB m) → Mod (footB b r kv) h h' → R (.bool false) h')
    (H2 : m.fuel ≠ 0 → ∀ h', BoxAt h' b r kv (tickB m) → Mod (footB b r kv) h h' → h'.size = h.size → R (.bool true) h') : HCalls A P f_box_Box_burn #[ptrV b] h R := by
  refine burn_ok B.head B.good.lo B.good.hi (fun hz h1 hb1 m1 hs1 => ?_) (fun hz h1 hb1 m1 hs1 => ?_)
  · exact H1 hz h1 (B.hd hb1 m1 rfl B.good.off) (m1.weak fun c _ hc => .inl hc)
  · obtain ⟨e1, e2, e3⟩ := tick_fuel m
    refine H2 hz h1 (B.hd ?_ m1 e3 (goodB_tick B.good)) (m1.weak fun c _ hc => .inl hc) hs1
    rw [e1, e2]; exact hb1

/-! ### Append -/
theorem BoxAt.putSoft {h : Heap} {b r : Nat} {kv : List (Fi × Nat)} {m : Bx} (B : BoxAt h b r kv m) {p : Fi × Nat} (hp : p ∈ kv) {data : ByteArray} (gd : GoodB { m with files := updF p.1.name (addF data) m.files }) {K : Heap → Prop}
    (H : ∀ h' kv', BoxAt h' b r kv' { m with files := updF p.1.name (addF data) m.files } → Mod (footB b r kv) h h' → (∀ c, footB b r kv' c ↔ footB b r kv c) → K h') :
    At (some ⟨p.2, 0, none⟩) fun a1 => LoadS h (a1.add 1) fun t => Chk (((t.size + data.size : Nat) : Int) ≤ IntKind.i64.max) <| At (some ⟨p.2, 0, none⟩) fun a2 => Store h (a2.add 1) (.string (t ++ data)) K := by
  have hc := B.cells p hp
  refine atI (LoadS.mk (hget_lit1 hc rfl) ⟨?_, atI (Store.mk1 hc (by simp) fun h1 hb1 m1 hs1 => ?_)⟩)
  · have h1 : wtF (updF p.1.name (addF data) m.files) ≤ 1099511627776 := gd.wt
    have h2 : addF data p.1 ∈ updF p.1.name (addF data) m.files := by
      refine List.mem_map.2 ⟨p.1, B.mem.2 ⟨p.2, hp⟩, by simp⟩
    have h3 := wtF_mem h2
    simp only [addF, size_app] at h3
    simp [IntKind.max, IntKind.bits, IntKind.signed]
    omega
  · exact H h1 _ (B.set hp (g := addF data) (fun _ => rfl) (by simpa [addF] using hb1) m1 gd) (m1.weak fun c _ hc => .inr (.inr ⟨p, hp, hc.symm⟩)) (fun c => foot_set (g := fun q => if q.1.name = p.1.name then addF data q.1 else q.1) c)

theorem bAppend_ok {A : Amb} {h : Heap} {b : Nat} {S : Nat → Prop} {m : Bx} {name data : ByteArray} {R : Value → Heap → Prop} (B : IsBox h b S m) (hw : wtF m.files + data.size + 1 ≤ 1099511627776)
    (H : ∀ h' S', IsBox h' b S' (appendB m name data).2 → Mod S h h' → (∀ c, S' c → S c ∨ h.size ≤ c) → R (.int .i64 (appendB m name data).1) h') : HCalls A P f_box_Box_Append #[ptrV b, .string name, .string data] h R := by
  have hgood := B.good.append (name := name) (data := data) hw
  obtain ⟨r, kv, B, hS⟩ := B
  refine ok_box_Box_Append ?_
  unfold F_box_Box_Append
  refine off_ok B.head ⟨_, rfl, ?_⟩
  unfold appendB at H hgood
  refine PIf.intro (fun hd => ?_) (fun hd => ?_)
  · rw [if_pos hd] at H; exact H h S ⟨r, kv, B, hS⟩ Mod.refl (fun c hc => .inl hc)
  rw [if_neg (by simp [hd])] at H hgood
  refine wrong_ok ⟨_, rfl, ?_⟩
  refine PIf.intro (fun hn => ?_) (fun hn => ?_)
  · rw [if_pos hn] at H; exact H h S ⟨r, kv, B, hS⟩ Mod.refl (fun c hc => .inl hc)
  rw [if_neg (by simp [hn])] at H hgood
  have hmS : ∀ {h1 : Heap}, Mod (footB b r kv) h h1 → Mod S h h1 := fun m1 => m1.weak fun c _ hc => (hS c).2 hc
  refine B.burn (fun hz h1 B1 m1 => ⟨_, rfl, ?_⟩) (fun hz h1 B1 m1 hs1 => ⟨_, rfl, ?_⟩)
  · rw [if_pos hz] at H
    exact PIf.yes rfl (H h1 S ⟨r, kv, B1, hS⟩ (hmS m1) (fun c hc => .inl hc))
  rw [if_neg hz] at H hgood
  refine PIf.no rfl ?_
  refine atI (LoadM.mk (hget_lit B1.head rfl) (lookup_ok P_mpf P_str P_zpf B1.map ?_))
  rcases B1.look name with ⟨k1, k2⟩ | ⟨p, hp, k1, k2, k3⟩
  · -- a new file
    rw [k1]
    refine ⟨none, rfl, Join.mk fun K hK => PIf.yes rfl ?_⟩
    refine New.mk fun h2 _ hb2 x2 hs2 => ?_
    have B2 := B1.mod x2 (fun _ _ h => h)
    refine atI (LoadM.mk (hget_lit B2.head rfl) ?_)
    have hsz : name.size ≤ 32 := by simp [badName] at hn; omega
    have hlen := wtF_len (tickB m).files
    have hkl : kv.length = (tickB m).files.length := by rw [← B1.perm.length_eq]; simp
    rw [(tick_fuel m).2.2] at hkl
    have hl2 := wtF_len m.files
    refine update_ok P_mpf P_str B2.map (by simp [maxLen]; omega) (by simp [kvM, maxLen]; omega) fun h3 M3 m3 hs3 => ?_
    rw [updM_new k1] at M3
    have hb3 := m3.blk hb2 (by have := B1.map.lt; omega)
    have kf := k2
    rw [(tick_fuel m).2.2] at kf
    have hhave : haveF name m.files = insF ⟨name, bs0, bs0⟩ m.files := by unfold haveF; rw [kf]; rfl
    have hn2 := findF_none kf
    have hws := wtF_ins ⟨name, bs0, bs0⟩ m.files
    simp only [sz0] at hws
    have B3 : BoxAt h3 b r (kv ++ [(⟨name, bs0, bs0⟩, h1.size)]) { tickB m with files := insF ⟨name, bs0, bs0⟩ m.files } := by
      refine ⟨m3.blk B2.head B2.ne_br.symm, ?_, ?_, ?_, ?_, ?_⟩
      · rw [kvM, List.map_append]; exact M3
      · intro p hp
        rcases List.mem_append.1 hp with hp | hp
        · exact m3.blk (B2.cells p hp) (B2.ne_pb hp).2
        · simp at hp; subst hp; exact hb3
      · rw [List.map_append]
        refine (List.perm_append_singleton _ _).trans (((B1.perm.trans (List.Perm.of_eq (tick_fuel m).2.2)).cons _).trans (insF_perm _ _).symm)
      · rw [List.map_append]
        refine List.nodup_append.2 ⟨B1.nodup, by simp, ?_⟩
        intro a ha c hc
        obtain ⟨p, hp, rfl⟩ := List.mem_map.1 ha
        simp at hc; subst hc
        have := blk_lt (B1.cells p hp); omega
      · refine B.good.tick _ (insF_sorted B.good.sorted hn2) (fun f hf => ?_) (by omega)
        rcases List.mem_cons.1 ((insF_perm _ _).subset hf) with rfl | hf
        · exact hsz
        · exact B.good.names f hf
    refine hK _ _ ?_
    rw [hhave] at H hgood
    refine B3.putSoft (p := (⟨name, bs0, bs0⟩, h1.size)) (by simp) (data := data) hgood fun h4 kv4 B4 m4 e4 => ?_
    have hf4 : ∀ c, footB b r kv4 c → footB b r kv c ∨ h.size ≤ c := fun c hc => by
      rcases (e4 c).1 hc with h | h | ⟨p, hp, rfl⟩
      · exact .inl (.inl h)
      · exact .inl (.inr (.inl h))
      · rcases List.mem_append.1 hp with hp | hp
        · exact .inl (.inr (.inr ⟨p, hp, rfl⟩))
        · simp at hp; subst hp; exact .inr (by have := m1.size; simpa using this)
    refine H h4 (footB b r kv4) ⟨r, kv4, B4, fun _ => Iff.rfl⟩ ?_ (fun c hc => (hf4 c hc).imp (hS c).2 id)
    have m13 : Mod (footB b r kv) h1 h3 := x2.mod.trans (m3.weak fun c _ hc => .inr (.inl hc))
    refine hmS ((m1.trans m13).then (m4.weak fun c _ hc => hf4 c ((e4 c).2 hc)))
  · -- a file that is there
    rw [k1]
    refine ⟨some ⟨p.2, 0, none⟩, rfl, Join.mk fun K hK => PIf.no rfl (hK _ _ ?_)⟩
    have kf := k2
    rw [(tick_fuel m).2.2] at kf
    have hhave : haveF name m.files = m.files := by unfold haveF; rw [kf]; rfl
    rw [hhave] at H hgood
    subst k3
    have e3 := (tick_fuel m).2.2
    refine B1.putSoft hp (data := data) (by rw [e3]; exact hgood) fun h4 kv4 B4 m4 e4 => ?_
    refine H h4 S ⟨r, kv4, by rw [e3] at B4; exact B4, fun c => (hS c).trans (e4 c).symm⟩ (hmS (m1.trans m4)) (fun c hc => .inl hc)

/-! ### Sync -/
theorem bSync_ok {A : Amb} {h : Heap} {b : Nat} {S : Nat → Prop} {m : Bx} {name : ByteArray} {R : Value → Heap → Prop} (B : IsBox h b S m)
    (H : ∀ h', IsBox h' b S (syncB m name).2 → Mod S h h' → R (.int .i64 (syncB m name).1) h') : HCalls A P f_box_Box_Sync #[ptrV b, .string name] h R := by
  have hgood := B.good.sync (name := name)
  obtain ⟨r, kv, B, hS⟩ := B
  refine ok_box_Box_Sync ?_
  unfold F_box_Box_Sync
  refine off_ok B.head ⟨_, rfl, ?_⟩
  unfold syncB at H hgood
  have hmS : ∀ {h1 : Heap}, Mod (footB b r kv) h h1 → Mod S h h1 := fun m1 => m1.weak fun c _ hc => (hS c).2 hc
  refine PIf.intro (fun hd => ?_) (fun hd => ?_)
  · rw [if_pos hd] at H; exact H h ⟨r, kv, B, hS⟩ Mod.refl
  rw [if_neg (by simp [hd])] at H hgood
  refine atI (LoadM.mk (hget_lit B.head rfl) (lookup_ok P_mpf P_str P_zpf B.map ?_))
  rcases B.look name with ⟨k1, k2⟩ | ⟨p, hp, k1, k2, k3⟩
  · rw [k1]
    rw [k2] at H
    exact ⟨none, rfl, PIf.yes rfl (H h ⟨r, kv, B, hS⟩ Mod.refl)⟩
  rw [k1]
  rw [k2, if_neg (by simp)] at H hgood
  refine ⟨some ⟨p.2, 0, none⟩, rfl, PIf.no rfl ?_⟩
  refine B.burn (fun hz h1 B1 m1 => ⟨_, rfl, ?_⟩) (fun hz h1 B1 m1 hs1 => ⟨_, rfl, ?_⟩)
  · rw [if_pos hz] at H
    exact PIf.yes rfl (H h1 ⟨r, kv, B1, hS⟩ (hmS m1))
  rw [if_neg hz] at H hgood
  refine PIf.no rfl ?_
  refine atI (LoadM.mk (hget_lit B1.head rfl) (lookup_ok P_mpf P_str P_zpf B1.map ?_))
  rw [k1]
  refine ⟨some ⟨p.2, 0, none⟩, rfl, ?_⟩
  have hc := B1.cells p hp
  refine atI (LoadS.mk (hget_lit hc rfl) (atI (LoadS.mk (hget_lit1 hc rfl) ⟨?_, ?_⟩)))
  · have h3 := wtF_mem (findF_some k2).2
    have := B.good.wt
    simp [IntKind.max, IntKind.bits, IntKind.signed]; omega
  refine atI (Store.mk hc (by simp) fun h2 hb2 m2 hs2 => atI (Store.mk1 hb2 (by simp) fun h3 hb3 m3 hs3 => ?_))
  subst k3
  have e3 := (tick_fuel m).2.2
  have B3 := B1.set hp (h' := h3) (g := firmF) (fun _ => rfl) (by simpa [firmF] using hb3) (m2.trans m3) (by rw [e3]; exact hgood)
  rw [e3] at B3
  refine H h3 ⟨r, _, B3, fun c => (hS c).trans (foot_set (g := fun q => if q.1.name = p.1.name then firmF q.1 else q.1) c).symm⟩ (hmS (m1.trans ((m2.trans m3).weak fun c _ hc => .inr (.inr ⟨p, hp, hc.symm⟩))))

/-! ### Read -/
theorem bRead_ok {A : Amb} {h : Heap} {b : Nat} {S : Nat → Prop} {m : Bx} {name : ByteArray} {R : Value → Heap → Prop} (B : IsBox h b S m)
    (H : R (.tuple #[.string (readB m name).1, .int .i64 (readB m name).2]) h) : HCalls A P f_box_Box_Read #[ptrV b, .string name] h R := by
  obtain ⟨r, kv, B, hS⟩ := B
  refine ok_box_Box_Read ?_
  unfold F_box_Box_Read
  refine off_ok B.head ⟨_, rfl, ?_⟩
  unfold readB at H
  refine PIf.intro (fun hd => ?_) (fun hd => ?_)
  · rw [if_pos hd] at H; exact H
  rw [if_neg (by simp [hd])] at H
  refine atI (LoadM.mk (hget_lit B.head rfl) (lookup_ok P_mpf P_str P_zpf B.map ?_))
  rcases B.look name with ⟨k1, k2⟩ | ⟨p, hp, k1, k2, k3⟩
  · rw [k1]
    rw [k2] at H
    exact ⟨none, rfl, PIf.yes rfl H⟩
  rw [k1]
  rw [k2] at H
  refine ⟨some ⟨p.2, 0, none⟩, rfl, PIf.no rfl ?_⟩
  have hc := B.cells p hp
  refine atI (LoadS.mk (hget_lit hc rfl) (atI (LoadS.mk (hget_lit1 hc rfl) ⟨?_, H⟩)))
  have h3 := wtF_mem (findF_some k2).2
  have := B.good.wt
  simp [IntKind.max, IntKind.bits, IntKind.signed]; omega

/-! ### Delete -/
theorem delM_kv (k : ByteArray) (kv : List (Fi × Nat)) : delM k (kvM kv) = kvM (kv.filter fun p => !decide (p.1.name = k)) := by
  unfold delM kvM
  rw [List.filter_map]; rfl
theorem bDelete_ok {A : Amb} {h : Heap} {b : Nat} {S : Nat → Prop} {m : Bx} {name : ByteArray} {R : Value → Heap → Prop} (B : IsBox h b S m)
    (H : ∀ h' S', IsBox h' b S' (deleteB m name).2 → Mod S h h' → (∀ c, S' c → S c) → R (.int .i64 (deleteB m name).1) h') : HCalls A P f_box_Box_Delete #[ptrV b, .string name] h R := by
  have hgood := B.good.delete (name := name)
  obtain ⟨r, kv, B, hS⟩ := B
  refine ok_box_Box_Delete ?_
  unfold F_box_Box_Delete
  refine off_ok B.head ⟨_, rfl, ?_⟩
  unfold deleteB at H hgood
  have hmS : ∀ {h1 : Heap}, Mod (footB b r kv) h h1 → Mod S h h1 := fun m1 => m1.weak fun c _ hc => (hS c).2 hc
  refine PIf.intro (fun hd => ?_) (fun hd => ?_)
  · rw [if_pos hd] at H; exact H h S ⟨r, kv, B, hS⟩ Mod.refl (fun _ h => h)
  rw [if_neg (by simp [hd])] at H hgood
  refine atI (LoadM.mk (hget_lit B.head rfl) (lookup_ok P_mpf P_str P_zpf B.map ?_))
  rcases B.look name with ⟨k1, k2⟩ | ⟨p, hp, k1, k2, k3⟩
  · rw [k1]
    rw [k2] at H
    exact ⟨none, rfl, PIf.yes rfl (H h S ⟨r, kv, B, hS⟩ Mod.refl (fun _ h => h))⟩
  rw [k1]
  rw [k2, if_neg (by simp)] at H hgood
  refine ⟨some ⟨p.2, 0, none⟩, rfl, PIf.no rfl ?_⟩
  refine B.burn (fun hz h1 B1 m1 => ⟨_, rfl, ?_⟩) (fun hz h1 B1 m1 hs1 => ⟨_, rfl, ?_⟩)
  · rw [if_pos hz] at H
    exact PIf.yes rfl (H h1 S ⟨r, kv, B1, hS⟩ (hmS m1) (fun _ h => h))
  rw [if_neg hz] at H hgood
  refine PIf.no rfl ?_
  refine atI (LoadM.mk (hget_lit B1.head rfl) (delete_ok P_mpf P_str B1.map fun h2 M2 m2 hs2 => ⟨rfl, ?_⟩))
  rw [delM_kv] at M2
  have e3 := (tick_fuel m).2.2
  have B2 : BoxAt h2 b r (kv.filter fun p => !decide (p.1.name = name)) { tickB m with files := delF name m.files } := by
    refine ⟨m2.blk B1.head B1.ne_br.symm, M2, fun q hq => ?_, ?_, ?_, hgood⟩
    · have hq := (List.mem_filter.1 hq).1
      exact m2.blk (B1.cells q hq) (B1.ne_pb hq).2
    · have h1 := B.perm.filter fun f => !decide (f.name = name)
      rw [List.filter_map] at h1
      exact h1
    · exact (List.filter_sublist.map _).nodup B.nodup
  refine H h2 (footB b r _) ⟨r, _, B2, fun _ => Iff.rfl⟩ (hmS (m1.trans (m2.weak fun c _ hc => .inr (.inl hc)))) (fun c hc => (hS c).2 ?_)
  rcases hc with h | h | ⟨p, hp, rfl⟩
  · exact .inl h
  · exact .inr (.inl h)
  · exact .inr (.inr ⟨p, (List.mem_filter.1 hp).1, rfl⟩)

/-! ### Fuel, New -/
theorem bFuel_ok {A : Amb} {h : Heap} {b : Nat} {S : Nat → Prop} {m : Bx} {n : Int} {R : Value → Heap → Prop} (B : IsBox h b S m) (hn : n ≤ 9223372036854775807)
    (H : ∀ h', IsBox h' b S (fuelB m n) → Mod S h h' → R (.tuple #[]) h') : HCalls A P f_box_Box_Fuel #[ptrV b, .int .i64 n] h R := by
  obtain ⟨r, kv, B, hS⟩ := B
  refine ok_box_Box_Fuel ?_
  unfold F_box_Box_Fuel
  refine PIf.yes rfl (atI (Store.mk1 B.head (by simp) fun h1 hb1 m1 hs1 => ?_))
  exact H h1 ⟨r, kv, B.hd (m' := fuelB m n) (by simpa [fuelB] using hb1) m1 rfl (B.good.fuel hn), hS⟩ (m1.weak fun c _ hc => (hS c).2 (.inl hc))
theorem bNew_ok {A : Amb} {h : Heap} {R : Value → Heap → Prop} (H : ∀ b h' S, IsBox h' b S newB → Ext h h' → (∀ c, S c → h.size ≤ c) → R (ptrV b) h') : HCalls A P f_box_New #[] h R := by
  refine ok_box_New ?_
  unfold F_box_New
  refine New.mk fun h1 _ hb1 x1 hs1 => New.mk fun h2 _ hb2 x2 hs2 => ?_
  refine H _ h2 (footB h1.size h.size []) ⟨_, [], ⟨hb2, MapS.empty (x2.blk hb1 (by simp)), by simp, List.Perm.refl _, by simp, goodB_new⟩, fun _ => Iff.rfl⟩ (x1.trans x2) ?_
  rintro c (rfl | rfl | ⟨p, hp, _⟩)
  · omega
  · exact Nat.le_refl _
  · cases hp
end Go.Lf.G

/-
  The contracts of strings.Repeat, strings.CutPrefix, strconv.ParseUint and strconv.Itoa at this translation (printed by the kit's lay-plain.mjs).
-/
namespace Go.Proofs
open Go.Shelf
def Tryz.lays105_ren : Go.Shelf.Ren := ⟨fun | 105 => 33 | 212 => 46 | 99 => 47 | 165 => 48 | 166 => 49 | 170 => 50 | 169 => 51 | 263 => 70 | 264 => 71 | 206 => 72 | 240 => 73 | 241 => 74 | 276 => 100 | 277 => 101 | n => n, fun | 9 => 9 | 3 => 3 | 4 => 4 | 20 => 20 | 0 => 0 | 46 => 87 | 109 => 88 | 5 => 5 | 72 => 94 | 76 => 95 | 51 => 76 | 146 => 116 | 53 => 74 | 148 => 118 | 70 => 91 | 37 => 92 | 75 => 82 | 127 => 120 | 164 => 142 | 80 => 98 | n => n, fun | n => n⟩
theorem Tryz.lays105 : Go.Proofs.Lays.n105 Tryz.prog Tryz.lays105_ren := {
  mixed := by kernel_rfl
  f99 := Tryz.func47.trans (congrArg some (by kernel_rfl))
  f105 := Tryz.func33.trans (congrArg some (by kernel_rfl))
  f165 := Tryz.func48.trans (congrArg some (by kernel_rfl))
  f166 := Tryz.func49.trans (congrArg some (by kernel_rfl))
  f169 := Tryz.func51.trans (congrArg some (by kernel_rfl))
  f170 := Tryz.func50.trans (congrArg some (by kernel_rfl))
  f206 := Tryz.func72.trans (congrArg some (by kernel_rfl))
  f212 := Tryz.func46.trans (congrArg some (by kernel_rfl))
  f240 := Tryz.func73.trans (congrArg some (by kernel_rfl))
  f241 := Tryz.func74.trans (congrArg some (by kernel_rfl))
  f263 := Tryz.func70.trans (congrArg some (by kernel_rfl))
  f264 := Tryz.func71.trans (congrArg some (by kernel_rfl))
  f276 := Tryz.func100.trans (congrArg some (by kernel_rfl))
  f277 := Tryz.func101.trans (congrArg some (by kernel_rfl))
  t0 := Tryz.underlying0
  a0 := Tryz.isAgg0
  z0 := Tryz.sizeOf0
  v0 := Tryz.zeroValue0
  t3 := Tryz.underlying3
  a3 := Tryz.isAgg3
  z3 := Tryz.sizeOf3
  v3 := Tryz.zeroValue3
  t4 := Tryz.underlying4
  a4 := Tryz.isAgg4
  z4 := Tryz.sizeOf4
  v4 := Tryz.zeroValue4
  t5 := Tryz.underlying5
  a5 := Tryz.isAgg5
  z5 := Tryz.sizeOf5
  v5 := Tryz.zeroValue5
  t9 := Tryz.underlying9
  a9 := Tryz.isAgg9
  z9 := Tryz.sizeOf9
  v9 := Tryz.zeroValue9
  t20 := Tryz.underlying20
  a20 := Tryz.isAgg20
  z20 := Tryz.sizeOf20
  v20 := Tryz.zeroValue20
  t37 := Tryz.underlying92
  a37 := Tryz.isAgg92
  z37 := Tryz.sizeOf92
  v37 := Tryz.zeroValue92
  t46 := Tryz.underlying87
  a46 := Tryz.isAgg87
  z46 := Tryz.sizeOf87
  v46 := Tryz.zeroValue87
  t51 := Tryz.underlying76
  a51 := Tryz.isAgg76
  z51 := Tryz.sizeOf76
  v51 := Tryz.zeroValue76
  t53 := Tryz.underlying74
  a53 := Tryz.isAgg74
  z53 := Tryz.sizeOf74
  v53 := Tryz.zeroValue74
  t70 := Tryz.underlying91
  a70 := Tryz.isAgg91
  z70 := Tryz.sizeOf91
  v70 := Tryz.zeroValue91
  t72 := Tryz.underlying94
  a72 := Tryz.isAgg94
  z72 := Tryz.sizeOf94
  v72 := Tryz.zeroValue94
  t75 := Tryz.underlying82
  a75 := Tryz.isAgg82
  z75 := Tryz.sizeOf82
  v75 := Tryz.zeroValue82
  t76 := Tryz.underlying95
  a76 := Tryz.isAgg95
  z76 := Tryz.sizeOf95
  v76 := Tryz.zeroValue95
  t109 := Tryz.underlying88
  a109 := Tryz.isAgg88
  z109 := Tryz.sizeOf88
  v109 := Tryz.zeroValue88
  t127 := Tryz.underlying120
  a127 := Tryz.isAgg120
  z127 := Tryz.sizeOf120
  v127 := Tryz.zeroValue120
  t146 := Tryz.underlying116
  a146 := Tryz.isAgg116
  z146 := Tryz.sizeOf116
  v146 := Tryz.zeroValue116
  t148 := Tryz.underlying118
  a148 := Tryz.isAgg118
  z148 := Tryz.sizeOf118
  v148 := Tryz.zeroValue118
  t164 := Tryz.underlying142
  a164 := Tryz.isAgg142
  z164 := Tryz.sizeOf142
  v164 := Tryz.zeroValue142 }
theorem Tryz.extra105 : Builder.Extra Tryz.prog Tryz.lays105_ren := {
  sizeBuilder := by kernel_rfl
  liesBuilder := by kernel_rfl
  t5 := Tryz.lays105.t5
  a5 := Tryz.lays105.a5
  z5 := Tryz.lays105.z5
  v5 := Tryz.lays105.v5
  infoByte := by kernel_rfl
  cellsByte := by kernel_rfl
  sizeByte := by kernel_rfl
  neB5 := by decide }
def Tryz.lays103_ren : Go.Shelf.Ren := ⟨fun | 103 => 41 | 210 => 55 | 206 => 72 | n => n, fun | 9 => 9 | 4 => 4 | 24 => 79 | 3 => 3 | n => n, fun | n => n⟩
theorem Tryz.lays103 : Go.Proofs.Lays.n103 Tryz.prog Tryz.lays103_ren := {
  mixed := by kernel_rfl
  f103 := Tryz.func41.trans (congrArg some (by kernel_rfl))
  f206 := Tryz.func72.trans (congrArg some (by kernel_rfl))
  f210 := Tryz.func55.trans (congrArg some (by kernel_rfl))
  t3 := Tryz.underlying3
  a3 := Tryz.isAgg3
  z3 := Tryz.sizeOf3
  v3 := Tryz.zeroValue3
  t4 := Tryz.underlying4
  a4 := Tryz.isAgg4
  z4 := Tryz.sizeOf4
  v4 := Tryz.zeroValue4
  t9 := Tryz.underlying9
  a9 := Tryz.isAgg9
  z9 := Tryz.sizeOf9
  v9 := Tryz.zeroValue9
  t24 := Tryz.underlying79
  a24 := Tryz.isAgg79
  z24 := Tryz.sizeOf79
  v24 := Tryz.zeroValue79 }
def Tryz.laysPu14_ren : Go.Shelf.Ren := ⟨fun | 14 => 42 | 16 => 56 | 17 => 57 | 19 => 84 | 20 => 85 | 21 => 86 | 22 => 87 | 23 => 88 | 24 => 89 | 25 => 106 | 27 => 32 | 26 => 107 | 28 => 45 | 29 => 69 | 30 => 96 | 31 => 97 | 32 => 98 | 33 => 99 | 35 => 68 | 34 => 109 | 36 => 110 | 37 => 111 | 38 => 112 | 39 => 114 | 40 => 115 | n => n, fun | 9 => 9 | 3 => 3 | 22 => 74 | 24 => 82 | 25 => 83 | 4 => 4 | 34 => 126 | 5 => 5 | 36 => 87 | 37 => 92 | 0 => 0 | 39 => 128 | 21 => 21 | 44 => 149 | 47 => 120 | 50 => 161 | 48 => 159 | 2 => 2 | 52 => 138 | 55 => 140 | 59 => 156 | 60 => 76 | 20 => 20 | 61 => 157 | 65 => 162 | 66 => 163 | 67 => 98 | n => n, fun | 0 => 0 | 1 => 1 | 2 => 2 | 3 => 4 | 4 => 5 | n => n⟩
theorem Tryz.laysPu14 : Go.Proofs.LaysPu.n14 Tryz.prog Tryz.laysPu14_ren := {
  mixed := by kernel_rfl
  f14 := Tryz.func42.trans (congrArg some (by kernel_rfl))
  f16 := Tryz.func56.trans (congrArg some (by kernel_rfl))
  f17 := Tryz.func57.trans (congrArg some (by kernel_rfl))
  f19 := Tryz.func84.trans (congrArg some (by kernel_rfl))
  f20 := Tryz.func85.trans (congrArg some (by kernel_rfl))
  f21 := Tryz.func86.trans (congrArg some (by kernel_rfl))
  f22 := Tryz.func87.trans (congrArg some (by kernel_rfl))
  f23 := Tryz.func88.trans (congrArg some (by kernel_rfl))
  f24 := Tryz.func89.trans (congrArg some (by kernel_rfl))
  f25 := Tryz.func106.trans (congrArg some (by kernel_rfl))
  f26 := Tryz.func107.trans (congrArg some (by kernel_rfl))
  f27 := Tryz.func32.trans (congrArg some (by kernel_rfl))
  f28 := Tryz.func45.trans (congrArg some (by kernel_rfl))
  f29 := Tryz.func69.trans (congrArg some (by kernel_rfl))
  f30 := Tryz.func96.trans (congrArg some (by kernel_rfl))
  f31 := Tryz.func97.trans (congrArg some (by kernel_rfl))
  f32 := Tryz.func98.trans (congrArg some (by kernel_rfl))
  f33 := Tryz.func99.trans (congrArg some (by kernel_rfl))
  f34 := Tryz.func109.trans (congrArg some (by kernel_rfl))
  f35 := Tryz.func68.trans (congrArg some (by kernel_rfl))
  f36 := Tryz.func110.trans (congrArg some (by kernel_rfl))
  f37 := Tryz.func111.trans (congrArg some (by kernel_rfl))
  f38 := Tryz.func112.trans (congrArg some (by kernel_rfl))
  f39 := Tryz.func114.trans (congrArg some (by kernel_rfl))
  f40 := Tryz.func115.trans (congrArg some (by kernel_rfl))
  t0 := Tryz.underlying0
  a0 := Tryz.isAgg0
  z0 := Tryz.sizeOf0
  v0 := Tryz.zeroValue0
  i0 := by kernel_rfl
  t2 := Tryz.underlying2
  a2 := Tryz.isAgg2
  z2 := Tryz.sizeOf2
  v2 := Tryz.zeroValue2
  i2 := by kernel_rfl
  t3 := Tryz.underlying3
  a3 := Tryz.isAgg3
  z3 := Tryz.sizeOf3
  v3 := Tryz.zeroValue3
  i3 := by kernel_rfl
  t4 := Tryz.underlying4
  a4 := Tryz.isAgg4
  z4 := Tryz.sizeOf4
  v4 := Tryz.zeroValue4
  i4 := by kernel_rfl
  t5 := Tryz.underlying5
  a5 := Tryz.isAgg5
  z5 := Tryz.sizeOf5
  v5 := Tryz.zeroValue5
  i5 := by kernel_rfl
  t9 := Tryz.underlying9
  a9 := Tryz.isAgg9
  z9 := Tryz.sizeOf9
  v9 := Tryz.zeroValue9
  i9 := by kernel_rfl
  t20 := Tryz.underlying20
  a20 := Tryz.isAgg20
  z20 := Tryz.sizeOf20
  v20 := Tryz.zeroValue20
  i20 := by kernel_rfl
  t21 := Tryz.underlying21
  a21 := Tryz.isAgg21
  z21 := Tryz.sizeOf21
  v21 := Tryz.zeroValue21
  i21 := by kernel_rfl
  t22 := Tryz.underlying74
  a22 := Tryz.isAgg74
  z22 := Tryz.sizeOf74
  v22 := Tryz.zeroValue74
  i22 := by kernel_rfl
  t24 := Tryz.underlying82
  a24 := Tryz.isAgg82
  z24 := Tryz.sizeOf82
  v24 := Tryz.zeroValue82
  i24 := by kernel_rfl
  t25 := Tryz.underlying83
  a25 := Tryz.isAgg83
  z25 := Tryz.sizeOf83
  v25 := Tryz.zeroValue83
  i25 := by kernel_rfl
  t34 := Tryz.underlying126
  a34 := Tryz.isAgg126
  z34 := Tryz.sizeOf126
  v34 := Tryz.zeroValue126
  i34 := by kernel_rfl
  c34 := by kernel_rfl
  t36 := Tryz.underlying87
  a36 := Tryz.isAgg87
  z36 := Tryz.sizeOf87
  v36 := Tryz.zeroValue87
  i36 := by kernel_rfl
  t37 := Tryz.underlying92
  a37 := Tryz.isAgg92
  z37 := Tryz.sizeOf92
  v37 := Tryz.zeroValue92
  i37 := by kernel_rfl
  t39 := Tryz.underlying128
  a39 := Tryz.isAgg128
  z39 := Tryz.sizeOf128
  v39 := Tryz.zeroValue128
  i39 := by kernel_rfl
  t44 := Tryz.underlying149
  a44 := Tryz.isAgg149
  z44 := Tryz.sizeOf149
  v44 := Tryz.zeroValue149
  i44 := by kernel_rfl
  t47 := Tryz.underlying120
  a47 := Tryz.isAgg120
  z47 := Tryz.sizeOf120
  v47 := Tryz.zeroValue120
  i47 := by kernel_rfl
  t48 := Tryz.underlying159
  a48 := Tryz.isAgg159
  z48 := Tryz.sizeOf159
  v48 := Tryz.zeroValue159
  i48 := by kernel_rfl
  t50 := Tryz.underlying161
  a50 := Tryz.isAgg161
  z50 := Tryz.sizeOf161
  v50 := Tryz.zeroValue161
  i50 := by kernel_rfl
  t52 := Tryz.underlying138
  a52 := Tryz.isAgg138
  z52 := Tryz.sizeOf138
  v52 := Tryz.zeroValue138
  i52 := by kernel_rfl
  t55 := Tryz.underlying140
  a55 := Tryz.isAgg140
  z55 := Tryz.sizeOf140
  v55 := Tryz.zeroValue140
  i55 := by kernel_rfl
  t59 := Tryz.underlying156
  a59 := Tryz.isAgg156
  z59 := Tryz.sizeOf156
  v59 := Tryz.zeroValue156
  i59 := by kernel_rfl
  t60 := Tryz.underlying76
  a60 := Tryz.isAgg76
  z60 := Tryz.sizeOf76
  v60 := Tryz.zeroValue76
  i60 := by kernel_rfl
  t61 := Tryz.underlying157
  a61 := Tryz.isAgg157
  z61 := Tryz.sizeOf157
  t65 := Tryz.underlying162
  a65 := Tryz.isAgg162
  z65 := Tryz.sizeOf162
  v65 := Tryz.zeroValue162
  i65 := by kernel_rfl
  t66 := Tryz.underlying163
  a66 := Tryz.isAgg163
  z66 := Tryz.sizeOf163
  v66 := Tryz.zeroValue163
  i66 := by kernel_rfl
  t67 := Tryz.underlying98
  a67 := Tryz.isAgg98
  z67 := Tryz.sizeOf98
  v67 := Tryz.zeroValue98
  i67 := by kernel_rfl
  g0 := by kernel_rfl
  m0 := by kernel_rfl
  g1 := by kernel_rfl
  m1 := by kernel_rfl
  g2 := by kernel_rfl
  m2 := by kernel_rfl
  g3 := by kernel_rfl
  m3 := by kernel_rfl
  g4 := by kernel_rfl
  m4 := by kernel_rfl }
def Tryz.laysM171_ren : Go.Shelf.Ren := ⟨fun | 171 => 32 | 243 => 45 | 246 => 69 | 283 => 96 | 284 => 97 | 285 => 98 | 286 => 99 | 129 => 68 | 317 => 109 | 318 => 110 | 319 => 111 | 320 => 112 | 337 => 114 | 338 => 115 | n => n, fun | 3 => 3 | 9 => 9 | 2 => 2 | 4 => 4 | 171 => 138 | 0 => 0 | 53 => 74 | 37 => 92 | 5 => 5 | 173 => 140 | 212 => 156 | 51 => 76 | 20 => 20 | 213 => 157 | 46 => 87 | 232 => 162 | 233 => 163 | n => n, fun | 17 => 2 | 18 => 4 | 19 => 5 | n => n⟩
theorem Tryz.laysM171 : Go.Proofs.LaysM.n171 Tryz.prog Tryz.laysM171_ren := {
  mixed := by kernel_rfl
  f129 := Tryz.func68.trans (congrArg some (by kernel_rfl))
  f171 := Tryz.func32.trans (congrArg some (by kernel_rfl))
  f243 := Tryz.func45.trans (congrArg some (by kernel_rfl))
  f246 := Tryz.func69.trans (congrArg some (by kernel_rfl))
  f283 := Tryz.func96.trans (congrArg some (by kernel_rfl))
  f284 := Tryz.func97.trans (congrArg some (by kernel_rfl))
  f285 := Tryz.func98.trans (congrArg some (by kernel_rfl))
  f286 := Tryz.func99.trans (congrArg some (by kernel_rfl))
  f317 := Tryz.func109.trans (congrArg some (by kernel_rfl))
  f318 := Tryz.func110.trans (congrArg some (by kernel_rfl))
  f319 := Tryz.func111.trans (congrArg some (by kernel_rfl))
  f320 := Tryz.func112.trans (congrArg some (by kernel_rfl))
  f337 := Tryz.func114.trans (congrArg some (by kernel_rfl))
  f338 := Tryz.func115.trans (congrArg some (by kernel_rfl))
  t0 := Tryz.underlying0
  a0 := Tryz.isAgg0
  z0 := Tryz.sizeOf0
  v0 := Tryz.zeroValue0
  t2 := Tryz.underlying2
  a2 := Tryz.isAgg2
  z2 := Tryz.sizeOf2
  v2 := Tryz.zeroValue2
  t3 := Tryz.underlying3
  a3 := Tryz.isAgg3
  z3 := Tryz.sizeOf3
  v3 := Tryz.zeroValue3
  t4 := Tryz.underlying4
  a4 := Tryz.isAgg4
  z4 := Tryz.sizeOf4
  v4 := Tryz.zeroValue4
  t5 := Tryz.underlying5
  a5 := Tryz.isAgg5
  z5 := Tryz.sizeOf5
  v5 := Tryz.zeroValue5
  t9 := Tryz.underlying9
  a9 := Tryz.isAgg9
  z9 := Tryz.sizeOf9
  v9 := Tryz.zeroValue9
  t20 := Tryz.underlying20
  a20 := Tryz.isAgg20
  z20 := Tryz.sizeOf20
  v20 := Tryz.zeroValue20
  t37 := Tryz.underlying92
  a37 := Tryz.isAgg92
  z37 := Tryz.sizeOf92
  v37 := Tryz.zeroValue92
  t46 := Tryz.underlying87
  a46 := Tryz.isAgg87
  z46 := Tryz.sizeOf87
  v46 := Tryz.zeroValue87
  t51 := Tryz.underlying76
  a51 := Tryz.isAgg76
  z51 := Tryz.sizeOf76
  v51 := Tryz.zeroValue76
  t53 := Tryz.underlying74
  a53 := Tryz.isAgg74
  z53 := Tryz.sizeOf74
  v53 := Tryz.zeroValue74
  t171 := Tryz.underlying138
  a171 := Tryz.isAgg138
  z171 := Tryz.sizeOf138
  v171 := Tryz.zeroValue138
  t173 := Tryz.underlying140
  a173 := Tryz.isAgg140
  z173 := Tryz.sizeOf140
  v173 := Tryz.zeroValue140
  t212 := Tryz.underlying156
  a212 := Tryz.isAgg156
  z212 := Tryz.sizeOf156
  v212 := Tryz.zeroValue156
  t213 := Tryz.underlying157
  a213 := Tryz.isAgg157
  z213 := Tryz.sizeOf157
  t232 := Tryz.underlying162
  a232 := Tryz.isAgg162
  z232 := Tryz.sizeOf162
  v232 := Tryz.zeroValue162
  t233 := Tryz.underlying163
  a233 := Tryz.isAgg163
  z233 := Tryz.sizeOf163
  v233 := Tryz.zeroValue163
  g17 := by kernel_rfl
  g18 := by kernel_rfl
  g19 := by kernel_rfl
  i0 := by kernel_rfl
  i2 := by kernel_rfl
  i3 := by kernel_rfl
  i4 := by kernel_rfl
  i5 := by kernel_rfl
  i9 := by kernel_rfl
  i20 := by kernel_rfl
  i37 := by kernel_rfl
  i46 := by kernel_rfl
  i51 := by kernel_rfl
  i53 := by kernel_rfl
  i171 := by kernel_rfl
  i173 := by kernel_rfl
  i212 := by kernel_rfl
  i232 := by kernel_rfl
  i233 := by kernel_rfl
  m17 := by kernel_rfl
  m18 := by kernel_rfl
  m19 := by kernel_rfl }
end Go.Proofs

