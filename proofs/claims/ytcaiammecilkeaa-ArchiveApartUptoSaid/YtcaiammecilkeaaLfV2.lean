/-
  Contracts: readers of bytes (chapter 1), sums and frames (chapter 2).
-/
import Derived.Test.YtcaiammecilkeaaLfV1
set_option maxRecDepth 100000
set_option linter.unusedVariables false
set_option linter.unusedSimpArgs false
namespace Go.Lf.G
open Go

theorem atI {a : Addr} {K : Addr → Prop} (h : K a) : At (some a) K := h
theorem Store.mk1 {h : Heap} {b j : Nat} {v : Value} {cs : Array Value} {T : TypeId} {K : Heap → Prop} (hb : h[b]? = some (.cells cs T (0, 0))) (hj : j < cs.size)
    (H : ∀ h', h'[b]? = some (.cells (cs.setIfInBounds j v) T (0, 0)) → Mod (· = b) h h' → h'.size = h.size → K h') : Store h ((⟨b, 0, none⟩ : Addr).add j) v K := by
  rw [add_mk, Nat.zero_add]; exact Store.mk hb hj H
theorem max_i64 : IntKind.max .i64 = 9223372036854775807 := by simp [IntKind.max, IntKind.bits, IntKind.signed]
theorem wrap_i64 {n : Int} (h1 : -9223372036854775808 ≤ n) (h2 : n ≤ 9223372036854775807) : IntKind.wrap .i64 n = n := by
  simp only [IntKind.wrap, IntKind.bits, IntKind.signed]
  simp
  omega
theorem wrap_u64n {n : Nat} (h : n < 18446744073709551616) : IntKind.wrap .u64 (n : Int) = (n : Int) := by rw [wrap_u64, Nat.mod_eq_of_lt h]
abbrev ptrV (b : Nat) : Value := .pointer (some ⟨b, 0, none⟩)

/-- a reader in memory -/
def RdAt (h : Heap) (b : Nat) (r : Rd) : Prop := h[b]? = some (.cells #[.string (strL r.rest), .bool r.bad] t_vary_Reader (0, 0))
theorem strL_nil : strL [] = ⟨#[]⟩ := rfl
theorem strL_size' (l : List UInt8) : (strL l).size = l.length := strL_size l
theorem strL_take (l : List UInt8) (n : Nat) : (strL l).extract 0 n = strL (l.take n) := by rw [ext_take, strL_list]
theorem strL_drop (l : List UInt8) (n : Nat) : (strL l).extract n (strL l).size = strL (l.drop n) := by rw [ext_drop, strL_list]
theorem strL_mid (l : List UInt8) (i j : Nat) : (strL l).extract i j = strL ((l.take j).drop i) := by rw [ext_list, strL_list]
theorem strL_app (a b : List UInt8) : strL a ++ strL b = strL (a ++ b) := by
  apply ByteArray.ext
  simp [strL, ByteArray.data_append]

theorem vText_ok {A : Amb} {h : Heap} {l : List UInt8} {R : Value → Heap → Prop} (hl : l.length ≤ 1099511627776) (H : ∀ h', Ext h h' → R (.string (strL (textL l))) h') : HCalls A P f_vary_Text #[.string (strL l)] h R := by
  refine ok_vary_Text ?_
  unfold F_vary_Text
  rw [strL_size, wrap_u64n (by omega)]
  have := putV_len10 (n := l.length) (by omega)
  refine vPut_ok (by omega) fun h1 x1 => ⟨_, rfl, ⟨by rw [strL_size, max_i64]; omega, ?_⟩⟩
  rw [strL_app]
  exact H _ x1
theorem vRead_ok {A : Amb} {h : Heap} {l : List UInt8} {R : Value → Heap → Prop} (H : ∀ h', RdAt h' h.size ⟨l, false⟩ → Ext h h' → R (ptrV h.size) h') : HCalls A P f_vary_Read #[.string (strL l)] h R := by
  refine ok_vary_Read ?_
  unfold F_vary_Read
  exact New.mk fun h1 _ hb x _ => H h1 hb x

theorem vNum_ok {A : Amb} {h : Heap} {b : Nat} {r : Rd} {R : Value → Heap → Prop} (hb : RdAt h b r) (hl : r.rest.length ≤ 1099511627776)
    (H : ∀ h', RdAt h' b (numR r).2 → Mod (· = b) h h' → R (.int .u64 ((numR r).1 : Int)) h') : HCalls A P f_vary_Reader_Num #[ptrV b] h R := by
  refine ok_vary_Reader_Num ?_
  unfold F_vary_Reader_Num
  refine Join.mk fun K hK => PIf.no rfl (atI (LoadB.mk (hget_lit1 hb rfl) (hK _ _ ?_)))
  refine PIf.intro (fun hq => ?_) (fun hq => ?_)
  · have := H h
    rw [numR_bad hq] at this
    exact this hb Mod.refl
  · refine atI (LoadS.mk (hget_lit hb rfl) ?_)
    have hq : r.bad = false := hq
    refine vGet_ok (by rw [strL_size]; exact hl) (fun hn => ⟨_, _, _, rfl, ?_⟩) (fun n t hn => ⟨_, _, _, rfl, ?_⟩)
    all_goals
      rw [strL_list] at hn
      refine atI (Store.mk hb (by simp) fun h1 hb1 m1 hs1 => atI (Store.mk1 hb1 (by simp) fun h2 hb2 m2 hs2 => ?_))
      have := H h2
      simp only [numR, hq, hn] at this
      exact this hb2 (m1.trans m2)

theorem wrap_most {m : Nat} (h : m ≤ 9223372036854775807) : IntKind.wrap .u64 (m : Int) = (m : Int) := wrap_u64n (by omega)
theorem vInt_ok {A : Amb} {h : Heap} {b : Nat} {r : Rd} {most : Nat} {R : Value → Heap → Prop} (hb : RdAt h b r) (hl : r.rest.length ≤ 1099511627776) (hm : most ≤ 9223372036854775807)
    (H : ∀ h', RdAt h' b (intR most r).2 → Mod (· = b) h h' → R (.int .i64 ((intR most r).1 : Int)) h') : HCalls A P f_vary_Reader_Int #[ptrV b, .int .i64 (most : Int)] h R := by
  refine ok_vary_Reader_Int ?_
  unfold F_vary_Reader_Int
  refine vNum_ok hb hl fun h1 hb1 m1 => ⟨_, rfl, ?_⟩
  refine Join.mk fun K hK => PIf.no rfl (atI (LoadB.mk (hget_lit1 hb1 rfl) (hK _ _ ?_)))
  refine PIf.intro (fun hq => ?_) (fun hq => ?_)
  · have := H h1
    have hq : (numR r).2.bad = true := hq
    simp only [intR, hq, if_true] at this
    exact this hb1 m1
  · have hq : (numR r).2.bad = false := hq
    refine Join.mk fun K1 hK1 => PIf.no (by simp) (hK1 _ _ ?_)
    rw [wrap_most hm]
    refine PIf.intro (fun hq2 => ?_) (fun hq2 => ?_)
    · refine atI (Store.mk hb1 (by simp) fun h2 hb2 m2 hs2 => atI (Store.mk1 hb2 (by simp) fun h3 hb3 m3 hs3 => ?_))
      have := H h3
      simp only [intR, hq] at this
      rw [if_neg (by simp), if_pos (by simp at hq2; omega)] at this
      exact this hb3 ((m1.trans m2).trans m3)
    · have := H h1
      simp at hq2
      simp only [intR, hq] at this
      rw [if_neg (by simp), if_neg (by omega)] at this
      rw [wrap_nat (by omega)]
      exact this hb1 m1

theorem vTake_ok {A : Amb} {h : Heap} {b n : Nat} {r : Rd} {R : Value → Heap → Prop} (hb : RdAt h b r)
    (H : ∀ h', RdAt h' b (takeR n r).2 → Mod (· = b) h h' → R (.string (strL (takeR n r).1)) h') : HCalls A P f_vary_Reader_Take #[ptrV b, .int .i64 (n : Int)] h R := by
  refine ok_vary_Reader_Take ?_
  unfold F_vary_Reader_Take
  refine Join.mk fun K hK => PIf.no rfl (atI (LoadB.mk (hget_lit1 hb rfl) (hK _ _ ?_)))
  refine PIf.intro (fun hq => ?_) (fun hq => ?_)
  · have := H h
    have hq : r.bad = true := hq
    simp only [takeR, hq, if_true] at this
    exact this hb Mod.refl
  · have hq : r.bad = false := hq
    refine Join.mk fun K1 hK1 => PIf.no (by simp) (atI (LoadS.mk (hget_lit hb rfl) (hK1 _ _ ?_)))
    rw [strL_size]
    refine PIf.intro (fun hq2 => ?_) (fun hq2 => ?_)
    · refine atI (Store.mk hb (by simp) fun h2 hb2 m2 hs2 => atI (Store.mk1 hb2 (by simp) fun h3 hb3 m3 hs3 => ?_))
      have := H h3
      simp only [takeR, hq] at this
      rw [if_neg (by simp), if_pos (by simp at hq2; omega)] at this
      exact this hb3 (m2.trans m3)
    · simp at hq2
      refine atI (LoadS.mk (hget_lit hb rfl) ⟨⟨by omega, by rw [strL_size]; omega⟩, atI (LoadS.mk (hget_lit hb rfl) ⟨⟨by omega, by rw [strL_size]; omega⟩, atI (Store.mk hb (by simp) fun h2 hb2 m2 hs2 => ?_)⟩)⟩)
      have := H h2
      simp only [takeR, hq] at this
      rw [if_neg (by simp), if_neg (by omega)] at this
      simp only [Int.toNat_natCast, strL_take, strL_drop] at hb2 ⊢
      rw [hq] at hb2
      exact this hb2 m2

theorem vRText_ok {A : Amb} {h : Heap} {b : Nat} {r : Rd} {R : Value → Heap → Prop} (hb : RdAt h b r) (hl : r.rest.length < 1099511627776)
    (H : ∀ h', RdAt h' b (textR r).2 → Mod (· = b) h h' → R (.string (strL (textR r).1)) h') : HCalls A P f_vary_Reader_Text #[ptrV b] h R := by
  refine ok_vary_Reader_Text ?_
  unfold F_vary_Reader_Text
  refine vNum_ok hb (by omega) fun h1 hb1 m1 => ⟨_, rfl, ?_⟩
  have hln := len_numR r
  refine Join.mk fun K hK => PIf.no rfl (atI (LoadB.mk (hget_lit1 hb1 rfl) (hK _ _ ?_)))
  refine PIf.intro (fun hq => ?_) (fun hq => ?_)
  · have := H h1
    have hq : (numR r).2.bad = true := hq
    simp only [textR, hq, if_true] at this
    exact this hb1 m1
  · have hq : (numR r).2.bad = false := hq
    have e : IntKind.wrap .i64 (if (1099511627776 : Int) < ((numR r).1 : Int) then 1099511627776 else ((numR r).1 : Int)) = ((min (numR r).1 1099511627776 : Nat) : Int) := by
      rw [wrap_i64 (by split <;> omega) (by split <;> omega)]
      split <;> omega
    rw [e]
    refine vTake_ok hb1 fun h2 hb2 m2 => ⟨_, rfl, ?_⟩
    have := H h2
    simp only [textR, hq] at this
    rw [if_neg (by simp)] at this
    have e2 : takeR (min (numR r).1 1099511627776) (numR r).2 = takeR (numR r).1 (numR r).2 := by
      by_cases hle : (numR r).1 ≤ 1099511627776
      · rw [Nat.min_eq_left hle]
      · have q1 : (numR r).2.rest.length < min (numR r).1 1099511627776 := by omega
        have q2 : (numR r).2.rest.length < (numR r).1 := by omega
        simp only [takeR, hq, Bool.false_eq_true, if_false, if_pos q1, if_pos q2]
    rw [e2] at hb2 ⊢
    exact this hb2 (m1.trans m2)

theorem vEnd_ok {A : Amb} {h : Heap} {b : Nat} {r : Rd} {R : Value → Heap → Prop} (hb : RdAt h b r) (H : R (.bool (endR r)) h) : HCalls A P f_vary_Reader_End #[ptrV b] h R := by
  refine ok_vary_Reader_End ?_
  unfold F_vary_Reader_End
  refine PIf.yes rfl (atI (LoadB.mk (hget_lit1 hb rfl) ?_))
  unfold endR at H
  refine PIf.intro (fun hq => ?_) (fun hq => ?_)
  · refine atI (LoadS.mk (hget_lit hb rfl) ?_)
    rw [hq] at H
    have e : sEq (strL r.rest) (⟨#[]⟩ : ByteArray) = r.rest.isEmpty := by
      rw [sEq_iff, ← strL_nil]
      cases hr : r.rest with
      | nil => simp
      | cons c t => simp [strL_inj]
    rw [e]; simpa using H
  · rw [hq] at H; exact H

/-! ### sums and frames -/
theorem crc_step {c : Nat} (hc : c < 4294967296) : bXor .u32 ((c : Int).fdiv ((2 : Int) ^ (1 : Nat))) (bAnd .u32 (3988292384 : Int) (IntKind.wrap .u32 (0 - (bAnd .u32 (c : Int) (1 : Int))))) = ((crcBit c : Nat) : Int) := by
  have h1 : bAnd .u32 (c : Int) (1 : Int) = ((c % 2 : Nat) : Int) := by
    have := and_u32 (a := c) (b := 1) hc (by decide)
    rw [Nat.and_one_is_mod] at this
    exact this
  rw [fdiv_nat c 1, h1]
  unfold crcBit
  have hd : c / 2 ^ 1 < 4294967296 := by omega
  by_cases ho : c % 2 = 1
  · rw [if_pos ho, ho]
    have e : IntKind.wrap .u32 (0 - ((1 : Nat) : Int)) = ((4294967295 : Nat) : Int) := by decide
    have e2 : bAnd .u32 (3988292384 : Int) ((4294967295 : Nat) : Int) = ((3988292384 : Nat) : Int) := by decide
    rw [e, e2, xor_u32 hd (by decide)]
  · rw [if_neg ho, show c % 2 = 0 by omega]
    have e : IntKind.wrap .u32 (0 - ((0 : Nat) : Int)) = ((0 : Nat) : Int) := by decide
    have e2 : bAnd .u32 (3988292384 : Int) ((0 : Nat) : Int) = ((0 : Nat) : Int) := by decide
    rw [e, e2, xor_u32 hd (by decide)]
    simp
theorem crc_not {c : Nat} (hc : c < 4294967296) : bXor .u32 (if IntKind.signed .u32 then -1 else IntKind.max .u32) (c : Int) = ((4294967295 - c : Nat) : Int) := by
  have e : (if IntKind.signed .u32 then -1 else IntKind.max .u32) = ((4294967295 : Nat) : Int) := by decide
  rw [e, xor_u32 (by decide) hc]
  congr 1
  have e1 : 4294967295 - c = 2 ^ 32 - (c + 1) := by omega
  have e2 : (4294967295 : Nat) = 2 ^ 32 - 1 := by decide
  have hc' : c < 2 ^ 32 := by omega
  rw [e1, e2]
  apply Nat.eq_of_testBit_eq
  intro i
  rw [Nat.testBit_xor, Nat.testBit_two_pow_sub_one, Nat.testBit_two_pow_sub_succ hc']
  by_cases hi : i < 32
  · simp [hi]
  · have : c.testBit i = false := Nat.testBit_lt_two_pow (Nat.lt_of_lt_of_le hc' (Nat.pow_le_pow_right (by decide) (by omega)))
    simp [hi, this]
theorem fSum_ok {A : Amb} {h : Heap} {l : List UInt8} {R : Value → Heap → Prop} (hl : l.length ≤ 1099511627776) (H : R (.int .u32 (crcL l : Int)) h) : HCalls A P f_frame_Sum #[.string (strL l)] h R := by
  refine ok_frame_Sum ?_
  unfold F_frame_Sum
  rw [strL_size]
  refine Loop.rule (fun m x hh => ∃ i : Nat, x = ((crcF (l.take i) : Int), (i : Int), ()) ∧ hh = h ∧ m = l.length - i ∧ i ≤ l.length) ?_ ⟨0, rfl, rfl, rfl, by omega⟩
  rintro K m _ hh ⟨i, rfl, e, rfl, hi⟩ hK
  subst hh
  refine PIf.intro (fun hq => ?_) (fun hq => ?_)
  · have hil : i < l.length := by simpa using hq
    obtain ⟨c, hc⟩ : ∃ c, l[i]? = some c := ⟨_, List.getElem?_eq_getElem hil⟩
    have hc256 : c.toNat < 256 := c.toNat_lt
    refine ⟨⟨by dsimp only; omega, by dsimp only; omega⟩, ?_⟩
    have hlt := crcF_lt (l.take i)
    dsimp only
    rw [sAt_nat (c := c) (by rw [strL_list]; exact hc), wrap_u32, Nat.mod_eq_of_lt (show c.toNat < 4294967296 by omega), xor_u32 hlt (by omega)]
    have hx : crcF (l.take i) ^^^ c.toNat < 4294967296 := Nat.xor_lt_two_pow (n := 32) hlt (by omega)
    refine Loop.rule (fun m x hh => ∃ k : Nat, x = ((crcIt k (crcF (l.take i) ^^^ c.toNat) : Int), (k : Int), ()) ∧ hh = h ∧ m = 8 - k ∧ k ≤ 8) ?_ ⟨0, rfl, rfl, rfl, by omega⟩
    rintro K1 m1 _ hh ⟨k, rfl, e, rfl, hk⟩ hK1
    subst hh
    refine PIf.intro (fun hq2 => ?_) (fun hq2 => ?_)
    · have hk8 : k < 8 := by simp at hq2; omega
      dsimp only
      rw [crc_step (crcIt_lt hx k), wrap_succ (by omega)]
      exact hK1 (8 - (k + 1)) _ _ (by omega) ⟨k + 1, rfl, rfl, rfl, hk8⟩
    · have hk8 : k = 8 := by simp at hq2; omega
      subst hk8
      dsimp only
      rw [wrap_succ (by omega)]
      refine hK (l.length - (i + 1)) _ _ (by omega) ⟨i + 1, ?_, rfl, rfl, hil⟩
      rw [List.take_add_one, hc, Option.toList_some, crcF_snoc]
      rfl
  · have hil : i = l.length := by simp at hq; omega
    have e : l.take i = l := List.take_of_length_le (by omega)
    dsimp only
    rw [e, crc_not (crcF_lt l)]
    exact H

theorem mark_byte (n k : Nat) : IntKind.wrap .u8 ((n : Int).fdiv ((2 : Int) ^ k)) = (((byteN (n / 2 ^ k % 256)).toNat : Nat) : Int) := by
  rw [fdiv_nat, wrap_u8, byteN_nat (Nat.mod_lt _ (by decide))]
theorem fmark_ok {A : Amb} {h : Heap} {n : Nat} {R : Value → Heap → Prop} (H : ∀ h', Ext h h' → R (.string (strL (markL n))) h') : HCalls A P f_frame_mark #[.int .u32 (n : Int)] h R := by
  refine ok_frame_mark ?_
  unfold F_frame_mark
  refine New.mk fun h1 _ hb x _ => ?_
  have e0 : IntKind.wrap .u8 (n : Int) = (((byteN (n % 256)).toNat : Nat) : Int) := by rw [wrap_u8, byteN_nat (Nat.mod_lt _ (by decide))]
  rw [mark_byte, mark_byte, mark_byte, e0] at hb
  have o : Own ByteE t_uint8 h1 ⟨some ⟨h.size, 0, none⟩, 4, 4⟩ (markL n) := Own.lit (E := ByteE) (l := markL n) hb rfl (by simp [maxLen, markL])
  exact bytes_str (s := ⟨some ⟨h.size, 0, none⟩, 4, 4⟩) P_slu8 P_u8 P_str o.view ⟨_, rfl, H _ x⟩

theorem fWrap_ok {A : Amb} {h : Heap} {l : List UInt8} {R : Value → Heap → Prop} (hl : l.length ≤ 1099511627776) (H1 : 1048576 < l.length → R (.tuple #[.string ⟨#[]⟩, .int .i64 2]) h)
    (H : l.length ≤ 1048576 → ∀ h', Ext h h' → R (.tuple #[.string (strL (wrapL l)), .int .i64 0]) h') : HCalls A P f_frame_Wrap #[.string (strL l)] h R := by
  refine ok_frame_Wrap ?_
  unfold F_frame_Wrap
  rw [strL_size]
  refine PIf.intro (fun hq => H1 (by simp at hq; omega)) (fun hq => ?_)
  have hlen : l.length ≤ 1048576 := by simp at hq; omega
  have := putV_len10 (n := l.length) (by omega)
  rw [wrap_u64n (by omega)]
  refine vPut_ok (by omega) fun h1 x1 => ⟨_, rfl, ?_⟩
  refine fSum_ok hl ⟨_, rfl, ?_⟩
  refine fmark_ok fun h2 x2 => ⟨_, rfl, ⟨?_, ?_, ?_⟩⟩
  · rw [strL_size, strL_size, max_i64, markL_len]; omega
  · rw [strL_app, strL_size, max_i64, List.length_append, markL_len]; omega
  · rw [strL_app, strL_app]
    exact H hlen _ (x1.trans x2)
theorem fNext_ok {A : Amb} {h : Heap} {l : List UInt8} {R : Value → Heap → Prop} (hl : l.length ≤ 1099511627776)
    (H : ∀ h', Ext h h' → R (.tuple #[.string (strL (nextL l).2.1), .string (strL (nextL l).2.2), .int .i64 ((nextL l).1 : Int)]) h') : HCalls A P f_frame_Next #[.string (strL l)] h R := by
  refine ok_frame_Next ?_
  unfold F_frame_Next
  rw [strL_size]
  have H0 := H h Mod.refl
  refine vGet_ok (by rw [strL_size]; exact hl) (fun hn => ⟨_, _, _, rfl, ?_⟩) (fun n t hn => ⟨_, _, _, rfl, ?_⟩) <;> rw [strL_list] at hn
  · have hnx : nextL l = if l.length < 10 ∧ ∀ c ∈ l, 128 ≤ c.toNat then (20, [], []) else (21, [], []) := by unfold nextL; rw [hn]
    rw [hnx] at H0
    refine Join.mk fun K hK => PIf.yes rfl (hK _ _ ?_)
    refine PIf.intro (fun hq => ?_) (fun hq => ?_)
    · have h10 : l.length < 10 := by simp at hq; omega
      refine Loop.rule (fun m x hh => ∃ i : Nat, x = ((i : Int), ()) ∧ hh = h ∧ m = l.length - i ∧ i ≤ l.length ∧ ∀ c ∈ l.take i, 128 ≤ c.toNat) ?_ ⟨0, rfl, rfl, rfl, by omega, by simp⟩
      rintro K1 m _ hh ⟨i, rfl, e, rfl, hi, hall⟩ hK1
      subst hh
      refine PIf.intro (fun hq2 => ?_) (fun hq2 => ?_)
      · have hil : i < l.length := by simpa using hq2
        obtain ⟨c, hc⟩ : ∃ c, l[i]? = some c := ⟨_, List.getElem?_eq_getElem hil⟩
        refine ⟨⟨by dsimp only; omega, by dsimp only; omega⟩, ?_⟩
        dsimp only
        rw [sAt_nat (c := c) (by rw [strL_list]; exact hc)]
        refine PIf.intro (fun hq3 => ?_) (fun hq3 => ?_)
        · rw [if_neg] at H0
          · exact H0
          · rintro ⟨_, h2⟩
            have := h2 c (List.mem_of_getElem? hc)
            simp at hq3; omega
        · rw [wrap_succ (by omega)]
          refine hK1 (l.length - (i + 1)) _ _ (by omega) ⟨i + 1, rfl, rfl, rfl, hil, fun x hx => ?_⟩
          rw [List.take_add_one, hc, Option.toList_some] at hx
          rcases List.mem_append.1 hx with hx | hx
          · exact hall x hx
          · simp at hx; subst hx; simp at hq3; omega
      · have hil : i = l.length := by simp at hq2; omega
        rw [List.take_of_length_le (by omega)] at hall
        rw [if_pos ⟨h10, hall⟩] at H0
        exact H0
    · have h10 : ¬ l.length < 10 := by simp at hq; omega
      rw [if_neg (fun hh => h10 hh.1)] at H0
      refine Join.mk fun K2 hK2 => PIf.yes rfl (hK2 _ _ (PIf.yes rfl H0))
  · obtain ⟨el, hn64⟩ := getV0 hn
    have htl : t.length ≤ 1099511627776 := by rw [el] at hl; simp at hl; omega
    have hnx : nextL l = if 1048576 < n then (21, [], []) else if t.length < 4 + n then (20, [], [])
        else if t.take 4 = markL (crcL ((t.drop 4).take n)) then (0, (t.drop 4).take n, t.drop (4 + n)) else (21, [], []) := by unfold nextL; rw [hn]
    rw [hnx] at H0 H
    refine Join.mk fun K hK => PIf.no rfl (hK _ _ (PIf.no rfl ?_))
    refine Join.mk fun K2 hK2 => PIf.no rfl (hK2 _ _ ?_)
    refine PIf.intro (fun hq => ?_) (fun hq => ?_)
    · have h1 : 1048576 < n := by simp at hq; omega
      rw [if_pos h1] at H0
      exact H0
    have h1 : ¬ 1048576 < n := by simp at hq; omega
    rw [if_neg h1] at H0 H
    rw [strL_size]
    refine Join.mk fun K3 hK3 => ?_
    have key : ∀ bb : Bool, (bb = true ↔ t.length < 4 + n) → K3 (bb, ()) h := fun bb hbb => by
      refine hK3 _ _ ?_
      refine PIf.intro (fun hq => ?_) (fun hq => ?_)
      · rw [if_pos (hbb.1 hq)] at H0
        exact H0
      have h2 : ¬ t.length < 4 + n := fun hh => by have hq : bb = false := hq; rw [hbb.2 hh] at hq; cases hq
      rw [if_neg h2] at H0 H
      have e4 : IntKind.wrap .u64 ((4 : Int) + (n : Int)) = ((4 + n : Nat) : Int) := by rw [show (4 : Int) + (n : Int) = ((4 + n : Nat) : Int) by simp]; exact wrap_u64n (by omega)
      rw [e4]
      refine ⟨⟨by omega, by omega⟩, ⟨by omega, by omega⟩, ⟨by omega, by omega⟩, ?_⟩
      have eb : (strL t).extract (4 : Int).toNat ((4 + n : Nat) : Int).toNat = strL ((t.drop 4).take n) := by
        rw [show (4 : Int).toNat = 4 from rfl, Int.toNat_natCast, strL_mid, List.drop_take]; congr 2; omega
      have em : (strL t).extract 0 (4 : Int).toNat = strL (t.take 4) := strL_take _ _
      have er : (strL t).extract ((4 + n : Nat) : Int).toNat (strL t).size = strL (t.drop (4 + n)) := by rw [Int.toNat_natCast, strL_drop]
      rw [strL_size] at er
      rw [eb, em, er]
      refine fSum_ok (by simp; omega) ⟨_, rfl, ?_⟩
      refine fmark_ok fun h2 x2 => ⟨_, rfl, ?_⟩
      have H2 := H h2 x2
      rw [sEq_iff]
      refine PIf.intro (fun hq => ?_) (fun hq => ?_)
      · rw [if_neg (by simp [strL_inj] at hq; exact hq)] at H2
        exact H2
      · rw [if_pos (by simp [strL_inj] at hq; exact hq)] at H2
        exact ⟨⟨by omega, by omega⟩, H2⟩
    refine PIf.intro (fun hq => key _ ⟨fun _ => by simp at hq; omega, fun _ => rfl⟩) (fun hq => key _ ?_)
    have h4 : 4 ≤ t.length := by simp at hq; omega
    have e1 : IntKind.wrap .u64 (IntKind.wrap .i64 ((t.length : Int) - (4 : Int))) = ((t.length - 4 : Nat) : Int) := by
      rw [show (t.length : Int) - (4 : Int) = ((t.length - 4 : Nat) : Int) by omega, wrap_nat (by omega), wrap_u64n (by omega)]
    rw [e1]
    simp
    omega
end Go.Lf.G
