/-
  Contracts: the document's readers of bytes (chapter 1), its sums and frames (chapter 2).
-/
import Derived.Test.YtcaiammecilkeaaLfU4ToW1
import Derived.Test.YtcaiammecilkeaaLfU11ToU3
set_option maxRecDepth 100000
set_option linter.unusedVariables false
set_option linter.unusedSimpArgs false
namespace Go.Lf.G
open Go

def RrAt (h : Heap) (b : Nat) (r : Rd) : Prop := h[b]? = some (.cells #[.string (strL r.rest), .bool r.bad] t_wherryref01_Reader (0, 0))
theorem fine_bad {r : Rd} (hf : r.Fine) (h : r.bad = true) : r = Rd.fail := by
  obtain ⟨l, b⟩ := r
  simp only at h
  subst h
  have := hf rfl
  simp only at this
  subst this; rfl
theorem rfail_ok {A : Amb} {h : Heap} {b : Nat} {r : Rd} {R : Value → Heap → Prop} (hb : RrAt h b r) (H : ∀ h', RrAt h' b Rd.fail → Mod (· = b) h h' → R (.tuple #[]) h') : HCalls A P f_wherryref01_Reader_fail #[ptrV b] h R := by
  refine ok_wherryref01_Reader_fail ?_
  unfold F_wherryref01_Reader_fail
  refine atI (Store.mk hb (by simp) fun h1 hb1 m1 hs1 => atI (Store.mk1 hb1 (by simp) fun h2 hb2 m2 hs2 => ?_))
  exact H h2 hb2 (m1.trans m2)
theorem rNum_ok {A : Amb} {h : Heap} {b : Nat} {r : Rd} {R : Value → Heap → Prop} (hb : RrAt h b r) (hf : r.Fine) (hl : r.rest.length ≤ 1099511627776)
    (H : ∀ h', RrAt h' b (numR r).2 → Mod (· = b) h h' → R (.int .u64 ((numR r).1 : Int)) h') : HCalls A P f_wherryref01_Reader_Num #[ptrV b] h R := by
  refine ok_wherryref01_Reader_Num ?_
  unfold F_wherryref01_Reader_Num
  refine atI (LoadS.mk (hget_lit hb rfl) ?_)
  have fail : ∀ h1, Ext h h1 → numR r = (0, Rd.fail) → HCalls A P f_wherryref01_Reader_fail #[.pointer (some ⟨b, 0, none⟩)] h1 fun v1 h3 => v1 = .tuple #[] ∧ R (.int .u64 0) h3 := fun h1 x1 e => by
    refine rfail_ok (x1.blk hb (fun h => h)) fun h2 hb2 m2 => ⟨rfl, ?_⟩
    have := H h2
    rw [e] at this
    exact this hb2 ((Ext.mod x1).trans m2)
  cases hbad : r.bad with
  | true =>
    have e : numR r = (0, Rd.fail) := by rw [numR_bad hbad, fine_bad hf hbad]
    refine rGet_ok hl (fun _ h1 x1 => ⟨_, _, rfl, ?_⟩) (fun n t _ k h1 x1 _ _ _ => ⟨_, _, rfl, ?_⟩)
    all_goals
      have hb1 := x1.blk hb (fun h => h)
      exact Join.mk fun K hK => atI (LoadB.mk (hget_lit1 hb1 rfl) (PIf.yes hbad (hK _ _ (PIf.yes rfl (fail h1 x1 e)))))
  | false =>
    refine rGet_ok hl (fun hg h1 x1 => ⟨_, _, rfl, ?_⟩) (fun n t hg k h1 x1 k0 k1 ht => ⟨_, _, rfl, ?_⟩)
    · have e : numR r = (0, Rd.fail) := by simp only [numR, hbad, hg]; rfl
      have hb1 := x1.blk hb (fun h => h)
      exact Join.mk fun K hK => atI (LoadB.mk (hget_lit1 hb1 rfl) (PIf.no hbad (hK _ _ (PIf.yes rfl (fail h1 x1 e)))))
    · have e : numR r = (n, ⟨t, false⟩) := by simp only [numR, hbad, hg]; rfl
      have hb1 := x1.blk hb (fun h => h)
      refine Join.mk fun K hK => atI (LoadB.mk (hget_lit1 hb1 rfl) (PIf.no hbad (hK _ _ (PIf.no ?_ ?_))))
      · rw [beq_eq_false_iff_ne]; omega
      · refine atI (LoadS.mk (hget_lit hb1 rfl) ⟨⟨by omega, by rw [strL_size]; omega⟩, atI (Store.mk hb1 (by simp) fun h2 hb2 m2 hs2 => ?_)⟩)
        have := H h2
        rw [e] at this
        refine this ?_ ((Ext.mod x1).trans m2)
        rw [Int.toNat_natCast, strL_drop, hbad, ← ht] at hb2
        exact hb2
theorem rRInt_ok {A : Amb} {h : Heap} {b : Nat} {r : Rd} {most : Nat} {R : Value → Heap → Prop} (hb : RrAt h b r) (hf : r.Fine) (hl : r.rest.length ≤ 1099511627776) (hm : most ≤ 9223372036854775807)
    (H : ∀ h', RrAt h' b (intR most r).2 → Mod (· = b) h h' → R (.int .i64 ((intR most r).1 : Int)) h') : HCalls A P f_wherryref01_Reader_Int #[ptrV b, .int .i64 (most : Int)] h R := by
  refine ok_wherryref01_Reader_Int ?_
  unfold F_wherryref01_Reader_Int
  refine rNum_ok hb hf hl fun h1 hb1 m1 => ⟨_, rfl, ?_⟩
  have fail : intR most r = (0, Rd.fail) → HCalls A P f_wherryref01_Reader_fail #[.pointer (some ⟨b, 0, none⟩)] h1 fun v1 h3 => v1 = .tuple #[] ∧ R (.int .i64 0) h3 := fun e => by
    refine rfail_ok hb1 fun h2 hb2 m2 => ⟨rfl, ?_⟩
    have := H h2
    rw [e] at this
    exact this hb2 (m1.trans m2)
  refine Join.mk fun K hK => atI (LoadB.mk (hget_lit1 hb1 rfl) ?_)
  refine PIf.intro (fun hq => hK _ _ (PIf.yes rfl (fail ?_))) (fun hq => PIf.no (by simp) (hK _ _ ?_))
  · have hq : (numR r).2.bad = true := hq
    simp only [intR, hq, if_true]
    rw [fine_bad (numR_fine hf) hq]
  · have hq : (numR r).2.bad = false := hq
    rw [wrap_most hm]
    refine PIf.intro (fun hq2 => fail ?_) (fun hq2 => ?_)
    · have h2 : most < (numR r).1 := by simp at hq2; omega
      simp only [intR, hq, Bool.false_eq_true, if_false, if_pos h2]
    · have h2 : ¬ most < (numR r).1 := by simp at hq2; omega
      have := H h1
      simp only [intR, hq, Bool.false_eq_true, if_false, if_neg h2] at this
      rw [wrap_nat (by omega)]
      exact this hb1 m1
theorem rTake_ok {A : Amb} {h : Heap} {b n : Nat} {r : Rd} {R : Value → Heap → Prop} (hb : RrAt h b r) (hf : r.Fine)
    (H : ∀ h', RrAt h' b (takeR n r).2 → Mod (· = b) h h' → R (.string (strL (takeR n r).1)) h') : HCalls A P f_wherryref01_Reader_Take #[ptrV b, .int .i64 (n : Int)] h R := by
  refine ok_wherryref01_Reader_Take ?_
  unfold F_wherryref01_Reader_Take
  have fail : takeR n r = ([], Rd.fail) → HCalls A P f_wherryref01_Reader_fail #[.pointer (some ⟨b, 0, none⟩)] h fun v1 h3 => v1 = .tuple #[] ∧ R (.string ⟨#[]⟩) h3 := fun e => by
    refine rfail_ok hb fun h2 hb2 m2 => ⟨rfl, ?_⟩
    have := H h2
    rw [e] at this
    exact this hb2 m2
  refine Join.mk fun K hK => atI (LoadB.mk (hget_lit1 hb rfl) ?_)
  refine PIf.intro (fun hq => hK _ _ (PIf.yes rfl (fail ?_))) (fun hq => PIf.no (by simp) (atI (LoadS.mk (hget_lit hb rfl) (hK _ _ ?_))))
  · have hq : r.bad = true := hq
    simp only [takeR, hq, if_true]
    rw [fine_bad hf hq]
  · have hq : r.bad = false := hq
    rw [strL_size]
    refine PIf.intro (fun hq2 => fail ?_) (fun hq2 => ?_)
    · have h2 : r.rest.length < n := by simp at hq2; omega
      simp only [takeR, hq, Bool.false_eq_true, if_false, if_pos h2]
    · have h2 : ¬ r.rest.length < n := by simp at hq2; omega
      refine atI (LoadS.mk (hget_lit hb rfl) ⟨⟨by omega, by rw [strL_size]; omega⟩, atI (LoadS.mk (hget_lit hb rfl) ⟨⟨by omega, by rw [strL_size]; omega⟩, atI (Store.mk hb (by simp) fun h3 hb3 m3 hs3 => ?_)⟩)⟩)
      have := H h3
      simp only [takeR, hq, Bool.false_eq_true, if_false, if_neg h2] at this
      simp only [Int.toNat_natCast, strL_take, strL_drop] at hb3 ⊢
      rw [hq] at hb3
      exact this hb3 m3
theorem rRText_ok {A : Amb} {h : Heap} {b : Nat} {r : Rd} {R : Value → Heap → Prop} (hb : RrAt h b r) (hf : r.Fine) (hl : r.rest.length ≤ 1099511627776)
    (H : ∀ h', RrAt h' b (textR r).2 → Mod (· = b) h h' → R (.string (strL (textR r).1)) h') : HCalls A P f_wherryref01_Reader_Text #[ptrV b] h R := by
  refine ok_wherryref01_Reader_Text ?_
  unfold F_wherryref01_Reader_Text
  refine rNum_ok hb hf hl fun h1 hb1 m1 => ⟨_, rfl, ?_⟩
  have hln := len_numR r
  have fail : textR r = ([], Rd.fail) → HCalls A P f_wherryref01_Reader_fail #[.pointer (some ⟨b, 0, none⟩)] h1 fun v1 h3 => v1 = .tuple #[] ∧ R (.string ⟨#[]⟩) h3 := fun e => by
    refine rfail_ok hb1 fun h2 hb2 m2 => ⟨rfl, ?_⟩
    have := H h2
    rw [e] at this
    exact this hb2 (m1.trans m2)
  refine Join.mk fun K hK => atI (LoadB.mk (hget_lit1 hb1 rfl) ?_)
  refine PIf.intro (fun hq => hK _ _ (PIf.yes rfl (fail ?_))) (fun hq => atI (LoadS.mk (hget_lit hb1 rfl) (hK _ _ ?_)))
  · have hq : (numR r).2.bad = true := hq
    simp only [textR, hq, if_true]
    rw [fine_bad (numR_fine hf) hq]
  · have hq : (numR r).2.bad = false := hq
    rw [strL_size, wrap_u64n (by omega)]
    refine PIf.intro (fun hq2 => fail ?_) (fun hq2 => ?_)
    · have h2 : (numR r).2.rest.length < (numR r).1 := by simp at hq2; omega
      simp only [textR, takeR, hq, Bool.false_eq_true, if_false, if_pos h2]
    · have h2 : ¬ (numR r).2.rest.length < (numR r).1 := by simp at hq2; omega
      rw [wrap_nat (by omega)]
      refine rTake_ok hb1 (numR_fine hf) fun h2 hb2 m2 => ⟨_, rfl, ?_⟩
      have := H h2
      simp only [textR, hq, Bool.false_eq_true, if_false] at this
      exact this hb2 (m1.trans m2)
theorem rREnd_ok {A : Amb} {h : Heap} {b : Nat} {r : Rd} {R : Value → Heap → Prop} (hb : RrAt h b r) (H : R (.bool (endR r)) h) : HCalls A P f_wherryref01_Reader_End #[ptrV b] h R := by
  refine ok_wherryref01_Reader_End ?_
  unfold F_wherryref01_Reader_End
  refine atI (LoadB.mk (hget_lit1 hb rfl) ?_)
  unfold endR at H
  refine PIf.intro (fun hq => ?_) (fun hq => ?_)
  · refine atI (LoadS.mk (hget_lit hb rfl) ?_)
    rw [hq] at H
    have e : sEq (strL r.rest) (⟨#[]⟩ : ByteArray) = r.rest.isEmpty := by
      rw [sEq_iff, ← strL_nil]
      cases hr : r.rest with
      | nil => simp
      | cons c t => simp [strL_inj]
    rw [e]; simpa using H
  · rw [hq] at H; exact H
end Go.Lf.G

/-
  Contracts: the document's sums and frames (chapter 2).
-/
set_option maxRecDepth 100000
set_option linter.unusedVariables false
set_option linter.unusedSimpArgs false
namespace Go.Lf.G
open Go

theorem rSum_ok {A : Amb} {h : Heap} {l : List UInt8} {R : Value → Heap → Prop} (hl : l.length ≤ 1099511627776) (H : R (.int .u32 (crcL l : Int)) h) : HCalls A P f_wherryref02_Sum #[.string (strL l)] h R := by
  refine ok_wherryref02_Sum ?_
  unfold F_wherryref02_Sum
  rw [strL_size]
  refine Loop.rule (fun m x hh => ∃ i : Nat, x = ((crcF (l.take i) : Int), (i : Int), ()) ∧ hh = h ∧ m = l.length - i ∧ i ≤ l.length) ?_ ⟨0, rfl, rfl, rfl, by omega⟩
  rintro K m _ hh ⟨i, rfl, e, rfl, hi⟩ hK
  subst hh
  refine PIf.intro (fun hq => ?_) (fun hq => ?_)
  · have hil : i < l.length := by simpa using hq
    obtain ⟨c, hc⟩ : ∃ c, l[i]? = some c := ⟨_, List.getElem?_eq_getElem hil⟩
    have hc256 : c.toNat < 256 := c.toNat_lt
    refine ⟨⟨by dsimp only; omega, by dsimp only; omega⟩, ?_⟩
    have hlt := crcF_lt (l.take i)
    dsimp only
    rw [sAt_nat (c := c) (by rw [strL_list]; exact hc), wrap_u32, Nat.mod_eq_of_lt (show c.toNat < 4294967296 by omega), xor_u32 hlt (by omega)]
    have hx : crcF (l.take i) ^^^ c.toNat < 4294967296 := Nat.xor_lt_two_pow (n := 32) hlt (by omega)
    refine Loop.rule (fun m x hh => ∃ k : Nat, x = ((crcIt k (crcF (l.take i) ^^^ c.toNat) : Int), (k : Int), ()) ∧ hh = h ∧ m = 8 - k ∧ k ≤ 8) ?_ ⟨0, rfl, rfl, rfl, by omega⟩
    rintro K1 m1 _ hh ⟨k, rfl, e, rfl, hk⟩ hK1
    subst hh
    have hit := crcIt_lt hx k
    refine PIf.intro (fun hq2 => ?_) (fun hq2 => ?_)
    · have hk8 : k < 8 := by simp at hq2; omega
      dsimp only
      have e1 : ((crcIt k (crcF (l.take i) ^^^ c.toNat) : Nat) : Int).tmod (2 : Int) = ((crcIt k (crcF (l.take i) ^^^ c.toNat) % 2 : Nat) : Int) := tmod_nat _ 2
      have e2 : IntKind.wrap .u32 (((crcIt k (crcF (l.take i) ^^^ c.toNat) : Nat) : Int).tdiv (2 : Int)) = ((crcIt k (crcF (l.take i) ^^^ c.toNat) / 2 : Nat) : Int) := by
        have := tdiv_nat (crcIt k (crcF (l.take i) ^^^ c.toNat)) 2
        rw [show (((2 : Nat) : Int)) = (2 : Int) from rfl] at this
        rw [this, wrap_u32, Nat.mod_eq_of_lt (by omega)]
      rw [e1, e2, wrap_succ (by omega)]
      refine Join.mk fun K2 hK2 => ?_
      have go : crcIt (k + 1) (crcF (l.take i) ^^^ c.toNat) = crcBit (crcIt k (crcF (l.take i) ^^^ c.toNat)) := rfl
      have nx : K1 (((crcIt (k + 1) (crcF (l.take i) ^^^ c.toNat) : Nat) : Int), ((k + 1 : Nat) : Int), ()) h := hK1 (8 - (k + 1)) _ _ (by omega) ⟨k + 1, rfl, rfl, rfl, hk8⟩
      refine PIf.intro (fun q => hK2 _ _ ?_) (fun q => hK2 _ _ ?_)
      · have q : crcIt k (crcF (l.take i) ^^^ c.toNat) % 2 = 1 := by
          rw [beq_iff_eq] at q; omega
        have e3 : bXor .u32 ((crcIt k (crcF (l.take i) ^^^ c.toNat) / 2 : Nat) : Int) (3988292384 : Int) = ((crcIt k (crcF (l.take i) ^^^ c.toNat) / 2 ^^^ 3988292384 : Nat) : Int) := xor_u32 (b := 3988292384) (by omega) (by decide)
        dsimp only
        rw [e3]
        rw [go, crcBit, if_pos q] at nx
        exact nx
      · have q : ¬ crcIt k (crcF (l.take i) ^^^ c.toNat) % 2 = 1 := by
          rw [beq_eq_false_iff_ne] at q; omega
        rw [go, crcBit, if_neg q] at nx
        exact nx
    · have hk8 : k = 8 := by simp at hq2; omega
      subst hk8
      dsimp only
      rw [wrap_succ (by omega)]
      refine hK (l.length - (i + 1)) _ _ (by omega) ⟨i + 1, ?_, rfl, rfl, hil⟩
      rw [List.take_add_one, hc, Option.toList_some, crcF_snoc]
      rfl
  · have hil : i = l.length := by simp at hq; omega
    have e : l.take i = l := List.take_of_length_le (by omega)
    dsimp only
    have hlt := crcF_lt l
    rw [e, show (4294967295 : Int) - ((crcF l : Nat) : Int) = ((4294967295 - crcF l : Nat) : Int) by omega, wrap_u32, Nat.mod_eq_of_lt (by omega)]
    exact H

/-- a number's eight bytes -/
def fixL (n : Nat) : List UInt8 := [byteN (n / 2 ^ 56 % 256), byteN (n / 2 ^ 48 % 256), byteN (n / 2 ^ 40 % 256), byteN (n / 2 ^ 32 % 256), byteN (n / 2 ^ 24 % 256), byteN (n / 2 ^ 16 % 256), byteN (n / 2 ^ 8 % 256), byteN (n / 2 ^ 0 % 256)]
theorem low8 {a : Nat} (ha : a < 18446744073709551616) : bAnd .u64 (a : Int) (255 : Int) = ((a % 256 : Nat) : Int) := by
  have h := and_u64 (a := a) (b := 255) ha (by decide)
  rw [show (255 : Nat) = 2 ^ 8 - 1 from rfl, Nat.and_two_pow_sub_one_eq_mod] at h
  exact h
theorem rFixed_ok {A : Amb} {h : Heap} {n : Nat} {R : Value → Heap → Prop} (hn : n < 18446744073709551616) (H : ∀ h', Ext h h' → R (.string (strL (fixL n))) h') : HCalls A P f_wherryref01_Fixed #[.int .u64 (n : Int)] h R := by
  refine ok_wherryref01_Fixed ?_
  unfold F_wherryref01_Fixed
  refine Loop.rule (fun m x hh => ∃ (j : Nat) (s : Sl), x = (s, (56 : Int) - 8 * (j : Int), ()) ∧ Own ByteE t_uint8 hh s ((fixL n).take j) ∧ Ext h hh ∧ (∀ b, s.blk = some b → h.size ≤ b) ∧ j ≤ 8 ∧ m = 8 - j) ?_
    ⟨0, ⟨none, 0, 0⟩, rfl, Own.nil, Mod.refl, fun b hb => by simp [Sl.blk] at hb, by omega, rfl⟩
  rintro K m _ hh ⟨j, s, rfl, o, x, hs, hj, hm⟩ hK
  refine PIf.intro (fun hq => ?_) (fun hq => ?_)
  · have hj8 : j < 8 := by simp at hq; omega
    refine ⟨by dsimp only; omega, ?_⟩
    have hb : (fixL n)[j]? = some (byteN (n / 2 ^ (56 - 8 * j) % 256)) := by
      have : j = 0 ∨ j = 1 ∨ j = 2 ∨ j = 3 ∨ j = 4 ∨ j = 5 ∨ j = 6 ∨ j = 7 := by omega
      rcases this with rfl | rfl | rfl | rfl | rfl | rfl | rfl | rfl <;> rfl
    have ev : IntKind.wrap .u8 (bAnd .u64 (((n : Nat) : Int).fdiv ((2 : Int) ^ (min ((56 : Int) - 8 * (j : Int)).toNat (IntKind.bits .u64)))) (255 : Int)) = (((byteN (n / 2 ^ (56 - 8 * j) % 256)).toNat : Nat) : Int) := by
      have e1 : min ((56 : Int) - 8 * (j : Int)).toNat (IntKind.bits .u64) = 56 - 8 * j := by
        have : IntKind.bits .u64 = 64 := rfl
        omega
      have h2 : n / 2 ^ (56 - 8 * j) ≤ n := Nat.div_le_self _ _
      rw [e1, fdiv_nat, low8 (by omega), wrap_u8, byteN_nat (Nat.mod_lt _ (by decide)), Nat.mod_mod]
    have hlen : ((fixL n).take j).length ≤ 8 := by simp; omega
    refine New.append1 (E := ByteE) (x := byteN (n / 2 ^ (56 - 8 * j) % 256)) (s := s) (l := (fixL n).take j) (by dsimp only [ByteE]; rw [ev]) app_u8 o (by omega) (by simp [maxLen]; omega) fun s' h' o' m' hb' hn' => ?_
    refine hK (8 - (j + 1)) _ _ (by omega) ⟨j + 1, s', ?_, ?_, x.more m' hs, fun b hb => ?_, hj8, rfl⟩
    · dsimp only
      rw [wrap_i64 (n := (56 : Int) - 8 * (j : Int) - 8) (by omega) (by omega), show (56 : Int) - 8 * (j : Int) - 8 = (56 : Int) - 8 * ((j + 1 : Nat) : Int) by omega]
    · rw [List.take_add_one, hb, Option.toList_some]; exact o'
    · rcases hb' b hb with h1 | h1
      · exact hs b h1
      · have := x.size; omega
  · have hj8 : j = 8 := by simp at hq; omega
    subst hj8
    refine bytes_str P_slu8 P_u8 P_str o.view ⟨_, rfl, ?_⟩
    rw [List.take_of_length_le (by simp [fixL])]
    exact H _ x
theorem fix_mark {n : Nat} (hn : n < 4294967296) : (fixL n).drop 4 = markL n := by
  simp only [fixL, markL, List.drop_succ_cons, List.drop_zero]
  rw [show n / 2 ^ 0 = n by simp]
theorem rfour_ok {A : Amb} {h : Heap} {l : List UInt8} {R : Value → Heap → Prop} (hl : l.length ≤ 1099511627776) (H : ∀ h', Ext h h' → R (.string (strL (markL (crcL l)))) h') : HCalls A P f_wherryref02_four #[.string (strL l)] h R := by
  refine ok_wherryref02_four ?_
  unfold F_wherryref02_four
  have hlt := crcL_lt l
  refine rSum_ok hl ⟨_, rfl, ?_⟩
  rw [wrap_u64n (by omega)]
  refine rFixed_ok (by omega) fun h1 x1 => ⟨_, rfl, ⟨by omega, by rw [strL_size]; simp [fixL]⟩, ?_⟩
  rw [show (4 : Int).toNat = 4 from rfl, strL_drop, fix_mark hlt]
  exact H h1 x1
theorem rWrap_ok {A : Amb} {h : Heap} {l : List UInt8} {R : Value → Heap → Prop} (hl : l.length ≤ 1099511627776) (H1 : 1048576 < l.length → R (.tuple #[.string ⟨#[]⟩, .int .i64 2]) h)
    (H : l.length ≤ 1048576 → ∀ h', Ext h h' → R (.tuple #[.string (strL (wrapL l)), .int .i64 0]) h') : HCalls A P f_wherryref02_Wrap #[.string (strL l)] h R := by
  refine ok_wherryref02_Wrap ?_
  unfold F_wherryref02_Wrap
  rw [strL_size]
  refine PIf.intro (fun hq => H1 (by simp at hq; omega)) (fun hq => ?_)
  have hlen : l.length ≤ 1048576 := by simp at hq; omega
  have := putV_len10 (n := l.length) (by omega)
  refine rInt_ok (by omega) fun h1 x1 => ⟨_, rfl, ?_⟩
  refine rfour_ok hl fun h2 x2 => ⟨_, rfl, ⟨?_, ?_, ?_⟩⟩
  · rw [strL_size, strL_size, max_i64, markL_len]; omega
  · rw [strL_app, strL_size, max_i64, List.length_append, markL_len]; omega
  · rw [strL_app, strL_app]
    exact H hlen _ (x1.trans x2)
end Go.Lf.G

/-
  Contracts: the document's frame at the head (chapter 2).
-/
set_option maxRecDepth 100000
set_option linter.unusedVariables false
set_option linter.unusedSimpArgs false
namespace Go.Lf.G
open Go

def shortB (l : List UInt8) (i : Nat) : Bool := decide (l.length < 10) && (l.take i).all fun c => decide (128 ≤ c.toNat)
theorem shortB_iff {l : List UInt8} {i : Nat} : shortB l i = true ↔ l.length < 10 ∧ ∀ c ∈ l.take i, 128 ≤ c.toNat := by simp [shortB]
theorem shortB_not {l : List UInt8} {i : Nat} : shortB l i = false ↔ ¬ (l.length < 10 ∧ ∀ c ∈ l.take i, 128 ≤ c.toNat) := by rw [← shortB_iff]; simp
theorem rNext_ok {A : Amb} {h : Heap} {l : List UInt8} {R : Value → Heap → Prop} (hl : l.length ≤ 1099511627776)
    (H : ∀ h', Ext h h' → R (.tuple #[.string (strL (nextL l).2.1), .string (strL (nextL l).2.2), .int .i64 ((nextL l).1 : Int)]) h') : HCalls A P f_wherryref02_Next #[.string (strL l)] h R := by
  refine ok_wherryref02_Next ?_
  unfold F_wherryref02_Next
  rw [strL_size]
  refine Loop.rule (fun m x hh => ∃ i : Nat, x = (shortB l i, (i : Int), ()) ∧ hh = h ∧ i ≤ l.length ∧ i ≤ 10 ∧ m = 10 - i) ?_ ⟨0, ?_, rfl, by omega, by omega, rfl⟩
  · rintro K m _ hh ⟨i, rfl, e, hi, h10, hm⟩ hK
    subst hh
    refine Join.mk fun K1 hK1 => ?_
    have key : ∀ b : Bool, (b = true ↔ i < l.length ∧ i < 10) → K1 (b, ()) h := fun b hb => by
      refine hK1 _ _ ?_
      refine PIf.intro (fun hq => ?_) (fun hq => ?_)
      · obtain ⟨hil, hi10⟩ := hb.1 hq
        obtain ⟨c, hc⟩ : ∃ c, l[i]? = some c := ⟨_, List.getElem?_eq_getElem hil⟩
        refine Join.mk fun K2 hK2 => ?_
        have nx : K2 (shortB l (i + 1), ()) h := by
          refine hK2 _ _ ?_
          dsimp only
          rw [wrap_succ (by omega)]
          exact hK (10 - (i + 1)) _ _ (by omega) ⟨i + 1, rfl, rfl, hil, by omega, rfl⟩
        have hst : l.take (i + 1) = l.take i ++ [c] := by rw [List.take_add_one, hc, Option.toList_some]
        refine PIf.intro (fun q => ⟨⟨by dsimp only; omega, by dsimp only; omega⟩, ?_⟩) (fun q => ?_)
        · have q : l.length < 10 ∧ ∀ c ∈ l.take i, 128 ≤ c.toNat := shortB_iff.1 q
          dsimp only
          rw [sAt_nat (c := c) (by rw [strL_list]; exact hc)]
          have e : shortB l (i + 1) = decide (((c.toNat : Nat) : Int) ≥ (128 : Int)) := by
            rw [Bool.eq_iff_iff, shortB_iff, decide_eq_true_eq, hst]
            constructor
            · intro h; have := h.2 c (by simp); omega
            · intro h
              refine ⟨q.1, fun x hx => ?_⟩
              rcases List.mem_append.1 hx with hx | hx
              · exact q.2 x hx
              · simp at hx; subst hx; omega
          rw [e] at nx
          exact nx
        · have q : ¬ (l.length < 10 ∧ ∀ c ∈ l.take i, 128 ≤ c.toNat) := shortB_not.1 q
          have e : shortB l (i + 1) = false := by
            rw [shortB_not, hst]
            exact fun h => q ⟨h.1, fun x hx => h.2 x (List.mem_append_left _ hx)⟩
          rw [e] at nx
          exact nx
      · have hq : b = false := hq
        have hend : ¬ (i < l.length ∧ i < 10) := fun hh => by rw [hb.2 hh] at hq; cases hq
        have H0 := H h Mod.refl
        refine PIf.intro (fun q => ?_) (fun q => ?_)
        · have q : l.length < 10 ∧ ∀ c ∈ l.take i, 128 ≤ c.toNat := shortB_iff.1 q
          rw [List.take_of_length_le (by omega)] at q
          have hg : getV 0 0 l = none := getV0_none fun x hx => q.2 x (List.mem_of_mem_take hx)
          have hnx : nextL l = (20, [], []) := by unfold nextL; rw [hg]; dsimp only; rw [if_pos q]
          rw [hnx] at H0
          exact H0
        · have q : ¬ (l.length < 10 ∧ ∀ c ∈ l.take i, 128 ≤ c.toNat) := shortB_not.1 q
          have q2 : ¬ (l.length < 10 ∧ ∀ c ∈ l, 128 ≤ c.toNat) := fun hh => q ⟨hh.1, fun x hx => hh.2 x (List.mem_of_mem_take hx)⟩
          refine rGet_ok hl (fun hg h1 x1 => ⟨_, _, rfl, ?_⟩) (fun n t hg k h1 x1 k0 k1 ht => ⟨_, _, rfl, ?_⟩)
          · have hnx : nextL l = (21, [], []) := by unfold nextL; rw [hg]; dsimp only; rw [if_neg q2]
            have H1 := H h1 x1
            rw [hnx] at H1
            exact Join.mk fun K3 hK3 => PIf.yes rfl (hK3 _ _ (PIf.yes rfl H1))
          · obtain ⟨el, hn64⟩ := getV0 hg
            have htl : t.length ≤ l.length := by rw [ht]; simp
            have hnx : nextL l = if 1048576 < n then (21, [], []) else if t.length < 4 + n then (20, [], [])
                else if t.take 4 = markL (crcL ((t.drop 4).take n)) then (0, (t.drop 4).take n, t.drop (4 + n)) else (21, [], []) := by unfold nextL; rw [hg]
            rw [hnx] at H
            have H1 := H h1 x1
            refine Join.mk fun K3 hK3 => PIf.no (by rw [beq_eq_false_iff_ne]; omega) (hK3 _ _ ?_)
            refine PIf.intro (fun hq => ?_) (fun hq => ?_)
            · have h2 : 1048576 < n := by simp at hq; omega
              rw [if_pos h2] at H1
              exact H1
            have h2 : ¬ 1048576 < n := by simp at hq; omega
            rw [if_neg h2] at H1 H
            have et : (strL l).extract ((k : Nat) : Int).toNat l.length = strL t := by
              rw [Int.toNat_natCast]
              have := strL_drop l k
              rw [strL_size] at this
              rw [this, ht]
            have wn : IntKind.wrap .i64 ((n : Nat) : Int) = ((n : Nat) : Int) := wrap_nat (by omega)
            rw [et, strL_size, wn]
            refine ⟨⟨by omega, by omega⟩, ?_⟩
            refine Join.mk fun K4 hK4 => ?_
            have key4 : ∀ bb : Bool, (bb = true ↔ t.length < 4 + n) → K4 (bb, ()) h1 := fun bb hbb => by
              refine hK4 _ _ ?_
              refine PIf.intro (fun hq => ?_) (fun hq => ?_)
              · rw [if_pos (hbb.1 hq)] at H1
                exact H1
              have h3 : ¬ t.length < 4 + n := fun hh => by have hq : bb = false := hq; rw [hbb.2 hh] at hq; cases hq
              rw [if_neg h3] at H
              have e4 : IntKind.wrap .i64 ((4 : Int) + (n : Int)) = ((4 + n : Nat) : Int) := by rw [show (4 : Int) + (n : Int) = ((4 + n : Nat) : Int) by simp]; exact wrap_nat (by omega)
              rw [e4]
              refine ⟨⟨by omega, by omega⟩, ⟨by omega, by omega⟩, ?_⟩
              have eb : (strL t).extract (4 : Int).toNat ((4 + n : Nat) : Int).toNat = strL ((t.drop 4).take n) := by
                rw [show (4 : Int).toNat = 4 from rfl, Int.toNat_natCast, strL_mid, List.drop_take]; congr 2; omega
              have em : (strL t).extract 0 (4 : Int).toNat = strL (t.take 4) := strL_take _ _
              have er : (strL t).extract ((4 + n : Nat) : Int).toNat (strL t).size = strL (t.drop (4 + n)) := by rw [Int.toNat_natCast, strL_drop]
              rw [strL_size] at er
              rw [eb, em, er]
              refine rfour_ok (by simp; omega) fun h2 x2 => ⟨_, rfl, ⟨by omega, by omega⟩, ?_⟩
              have H2 := H h2 (x1.trans x2)
              rw [sEq_iff]
              refine PIf.intro (fun hq => ?_) (fun hq => ?_)
              · have hne : ¬ t.take 4 = markL (crcL ((t.drop 4).take n)) := fun hh => by simp [strL_inj, hh] at hq
                rw [if_neg hne] at H2
                exact H2
              · have heq : t.take 4 = markL (crcL ((t.drop 4).take n)) := by simp [strL_inj] at hq; exact hq.symm
                rw [if_pos heq] at H2
                exact ⟨⟨by omega, by omega⟩, H2⟩
            refine PIf.intro (fun hq => key4 _ ⟨fun _ => by simp at hq; omega, fun _ => rfl⟩) (fun hq => key4 _ ?_)
            have h4 : 4 ≤ t.length := by simp at hq; omega
            rw [wrap_i64 (n := (t.length : Int) - 4) (by omega) (by omega)]
            simp
            omega
    refine PIf.intro (fun hq => key _ ?_) (fun hq => key _ ?_)
    · have : i < l.length := by simpa using hq
      simp [this]; omega
    · have : ¬ i < l.length := by simp at hq; omega
      simp [this]
  · have e : decide (((l.length : Nat) : Int) < (10 : Int)) = shortB l 0 := by
      rw [Bool.eq_iff_iff, shortB_iff, decide_eq_true_eq]
      simp
      omega
    rw [e]
    rfl
end Go.Lf.G

/-
  Contracts: programs of steps (chapter 12).
-/
set_option maxRecDepth 100000
set_option linter.unusedVariables false
set_option linter.unusedSimpArgs false
namespace Go.Lf.G
open Go

theorem bs_eq {s : ByteArray} : sEq s (⟨#[]⟩ : ByteArray) = decide (s = bs0') := sEq_iff
theorem bs0_iff {s : ByteArray} : s = bs0' ↔ s.size = 0 := by
  constructor
  · rintro rfl; rfl
  · intro h
    have : bl s = [] := List.eq_nil_of_length_eq_zero (by rw [bl_size]; exact h)
    rw [← strL_of s]
    show strL (bl s) = _
    rw [this]; rfl
theorem pNamed_ok {A : Amb} {h : Heap} {s : ByteArray} {R : Value → Heap → Prop} (H : R (.bool (nameOK s)) h) : HCalls A P f_prog_Named #[.string s] h R := by
  refine ok_prog_Named ?_
  unfold F_prog_Named
  rw [bs_eq]
  refine Join.mk fun K hK => ?_
  have key : ∀ bb : Bool, (bb = true ↔ s.size = 0 ∨ 16 < s.size) → K (bb, ()) h := fun bb hbb => by
    refine hK _ _ ?_
    refine PIf.intro (fun hq => ?_) (fun hq => ?_)
    · have e : nameOK s = false := by
        rw [Bool.eq_false_iff]
        intro hn
        have := nameOK_iff.1 hn
        have := hbb.1 hq
        omega
      rw [e] at H; exact H
    have hsz : ¬ (s.size = 0 ∨ 16 < s.size) := fun hh => by have hq : bb = false := hq; rw [hbb.2 hh] at hq; cases hq
    refine Loop.rule (fun m x hh => ∃ i : Nat, x = ((i : Int), ()) ∧ hh = h ∧ m = s.size - i ∧ i ≤ s.size ∧ ∀ c ∈ (bl s).take i, 33 ≤ c.toNat ∧ c.toNat ≤ 126) ?_ ⟨0, rfl, rfl, rfl, by omega, by simp⟩
    rintro K1 m _ hh ⟨i, rfl, e, rfl, hi, hall⟩ hK1
    subst hh
    refine PIf.intro (fun hq2 => ?_) (fun hq2 => ?_)
    · have hil : i < s.size := by simpa using hq2
      obtain ⟨c, hc⟩ : ∃ c, (bl s)[i]? = some c := ⟨_, List.getElem?_eq_getElem (by rw [bl_size]; exact hil)⟩
      have hmem : c ∈ bl s := List.mem_of_getElem? hc
      dsimp only
      rw [sAt_nat hc]
      refine Join.mk fun K2 hK2 => ⟨⟨by omega, by omega⟩, ?_⟩
      have key2 : ∀ b2 : Bool, (b2 = true ↔ ¬ (33 ≤ c.toNat ∧ c.toNat ≤ 126)) → K2 (b2, ()) h := fun b2 hb2 => by
        refine hK2 _ _ ?_
        refine PIf.intro (fun hq => ?_) (fun hq => ?_)
        · have e : nameOK s = false := by
            rw [Bool.eq_false_iff]
            intro hn
            exact hb2.1 hq ((nameOK_iff.1 hn).2.2 c hmem)
          rw [e] at H; exact H
        · rw [wrap_succ (by omega)]
          refine hK1 (s.size - (i + 1)) _ _ (by omega) ⟨i + 1, rfl, rfl, rfl, hil, fun x hx => ?_⟩
          rw [List.take_add_one, hc, Option.toList_some] at hx
          rcases List.mem_append.1 hx with hx | hx
          · exact hall x hx
          · simp at hx; subst hx
            have hq : b2 = false := hq
            exact Decidable.byContradiction fun hh => by rw [hb2.2 hh] at hq; cases hq
      refine PIf.intro (fun hq3 => key2 _ ⟨fun _ => by simp at hq3; omega, fun _ => rfl⟩) (fun hq3 => ⟨⟨by omega, by omega⟩, key2 _ ⟨fun h4 => by simp at h4; omega, fun h4 => by simp at hq3; simp; omega⟩⟩)
    · have hil : i = s.size := by simp at hq2; omega
      have e : nameOK s = true := by
        rw [nameOK_iff]
        refine ⟨by omega, by omega, fun c hc => hall c ?_⟩
        rw [List.take_of_length_le (by rw [bl_size]; omega)]
        exact hc
      rw [e] at H; exact H
  refine PIf.intro (fun hq => key _ ⟨fun _ => .inl (by simpa [bs0_iff] using hq), fun _ => rfl⟩) (fun hq => key _ ⟨fun h4 => by simp at h4; omega, fun h4 => ?_⟩)
  have hq : ¬ s.size = 0 := fun hz => by rw [decide_eq_false_iff_not] at hq; exact hq (bs0_iff.2 hz)
  rw [decide_eq_true_eq]
  omega

theorem pwithin_ok {A : Amb} {h : Heap} {n lo hi : Int} {R : Value → Heap → Prop} (H : R (.bool (inI n lo hi)) h) : HCalls A P f_prog_within #[.int .i64 n, .int .i64 lo, .int .i64 hi] h R := by
  refine ok_prog_within ?_
  unfold F_prog_within
  refine PIf.intro (fun hq => ?_) (fun hq => ?_)
  · have e : inI n lo hi = decide (n ≤ hi) := by simp at hq; unfold inI; rw [decide_eq_decide]; omega
    rw [e] at H; exact H
  · have e : inI n lo hi = false := by simp at hq; unfold inI; simp; omega
    rw [e] at H; exact H

def Stp.fv (x : Stp) : List Fv := [.i x.kind, .s x.name, .s x.undo, .i x.tries, .i x.undoTries, .i x.wait]
theorem P_stp : P.underlying t_api_Step = some (.struct (P.fieldsOf t_api_Step)) := by kernel_rfl
theorem stp_eqB (x : Stp) : eqB P t_api_Step (Stp.fv x) = true := by kernel_rfl
theorem pright_ok {A : Amb} {h : Heap} {x : Stp} {R : Value → Heap → Prop} (H : ∀ h', Ext h h' → R (.bool (stpOK x)) h') :
    HCalls A P f_prog_right #[.agg #[.int .i64 x.kind, .string x.name, .string x.undo, .int .i64 x.tries, .int .i64 x.undoTries, .int .i64 x.wait]] h R := by
  refine ok_prog_right ?_
  unfold F_prog_right
  refine New.mk fun h1 _ hb x1 _ => ?_
  have H1 := H h1 x1
  refine LoadI.mk (hget_lit hb rfl) ?_
  unfold stpOK at H1
  refine PIf.intro (fun hk => ?_) (fun hk => ?_)
  · have hk : x.kind = 1 := by simpa using hk
    rw [if_pos hk] at H1
    refine Join.mk fun K hK => ?_
    have key : K (((decide (x.undo = bs0') && decide (x.undoTries = 0)) || (nameOK x.undo && inI x.undoTries 1 5)), ()) h1 := by
      refine hK _ _ ?_
      refine LoadS.mk (hget_lit1 hb rfl) (pNamed_ok ⟨_, rfl, ?_⟩)
      cases hn : nameOK x.name with
      | false => rw [hn] at H1; simpa [PIf] using H1
      | true =>
        refine PIf.yes rfl (LoadI.mk (hget_lit1 hb rfl) (pwithin_ok ⟨_, rfl, ?_⟩))
        cases ht : inI x.tries 1 5 with
        | false => rw [hn, ht] at H1; simpa [PIf] using H1
        | true =>
          refine PIf.yes rfl ?_
          refine PIf.intro (fun hq => ?_) (fun hq => ?_)
          · refine LoadI.mk (hget_lit1 hb rfl) ?_
            rw [hn, ht] at H1
            have hq : ((decide (x.undo = bs0') && decide (x.undoTries = 0)) || (nameOK x.undo && inI x.undoTries 1 5)) = true := hq
            rw [hq] at H1
            have e : (x.wait == (0 : Int)) = decide (x.wait = 0) := by by_cases hw : x.wait = 0 <;> simp [hw]
            rw [e]
            simpa using H1
          · have hq : ((decide (x.undo = bs0') && decide (x.undoTries = 0)) || (nameOK x.undo && inI x.undoTries 1 5)) = false := hq
            rw [hq] at H1
            simpa using H1
    have sub : ∀ {bb : Bool}, bb = (nameOK x.undo && inI x.undoTries 1 5) → ((decide (x.undo = bs0') && decide (x.undoTries = 0)) = false) → K (bb, ()) h1 := fun e1 e2 => by
      rw [e2, Bool.false_or, ← e1] at key; exact key
    refine LoadS.mk (hget_lit1 hb rfl) ?_
    rw [bs_eq]
    refine PIf.intro (fun hu => ?_) (fun hu => ?_)
    · refine LoadI.mk (hget_lit1 hb rfl) ?_
      refine PIf.intro (fun hz => ?_) (fun hz => ?_)
      · have e : decide (x.undoTries = 0) = true := by simpa using hz
        rw [hu, e] at key
        simpa using key
      · have e : decide (x.undoTries = 0) = false := by simpa using hz
        refine LoadS.mk (hget_lit1 hb rfl) (pNamed_ok ⟨_, rfl, ?_⟩)
        refine PIf.intro (fun hn => ?_) (fun hn => ?_)
        · exact LoadI.mk (hget_lit1 hb rfl) (pwithin_ok ⟨_, rfl, sub (by rw [hn, Bool.true_and]) (by rw [e, Bool.and_false])⟩)
        · exact sub (by rw [hn, Bool.false_and]) (by rw [e, Bool.and_false])
    · refine LoadS.mk (hget_lit1 hb rfl) (pNamed_ok ⟨_, rfl, ?_⟩)
      refine PIf.intro (fun hn => ?_) (fun hn => ?_)
      · exact LoadI.mk (hget_lit1 hb rfl) (pwithin_ok ⟨_, rfl, sub (by rw [hn, Bool.true_and]) (by rw [hu, Bool.false_and])⟩)
      · exact sub (by rw [hn, Bool.false_and]) (by rw [hu, Bool.false_and])
  · have hk : x.kind ≠ 1 := by simpa using hk
    rw [if_neg hk] at H1
    refine PIf.intro (fun hk2 => ?_) (fun hk2 => ?_)
    · have hk2 : x.kind = 2 := by simpa using hk2
      rw [if_pos hk2] at H1
      refine LoadI.mk (hget_lit hb rfl) (LoadS.mk (hget_lit1 hb rfl) (LoadS.mk (hget_lit1 hb rfl) (LoadI.mk (hget_lit1 hb rfl) (LoadI.mk (hget_lit1 hb rfl) (LoadI.mk (hget_lit1 hb rfl) (LoadI.mk (hget_lit1 hb rfl) ?_))))))
      refine eq_flat (xs := Stp.fv x) (ys := [.i 2, .s bs0', .s bs0', .i 0, .i 0, .i x.wait]) P_stp (stp_eqB x) rfl rfl rfl ⟨_, rfl, ?_⟩
      have e : decide (Stp.fv x = [.i 2, .s bs0', .s bs0', .i 0, .i 0, .i x.wait]) = (decide (x.name = bs0') && decide (x.undo = bs0') && decide (x.tries = 0) && decide (x.undoTries = 0)) := by
        rw [Bool.eq_iff_iff]
        simp [Stp.fv, hk2, and_assoc]
      rw [e]
      refine PIf.intro (fun hq => ?_) (fun hq => ?_)
      · rw [hq, Bool.true_and] at H1
        exact LoadI.mk (hget_lit1 hb rfl) (pwithin_ok ⟨_, rfl, H1⟩)
      · rw [hq, Bool.false_and] at H1
        exact H1
    · have hk2 : x.kind ≠ 2 := by simpa using hk2
      rw [if_neg hk2] at H1
      refine PIf.intro (fun hk3 => ?_) (fun hk3 => ?_)
      · have hk3 : x.kind = 3 := by simpa using hk3
        rw [if_pos hk3] at H1
        refine LoadI.mk (hget_lit hb rfl) (LoadS.mk (hget_lit1 hb rfl) (LoadS.mk (hget_lit1 hb rfl) (LoadI.mk (hget_lit1 hb rfl) (LoadI.mk (hget_lit1 hb rfl) (LoadI.mk (hget_lit1 hb rfl) (LoadS.mk (hget_lit1 hb rfl) ?_))))))
        refine eq_flat (xs := Stp.fv x) (ys := [.i 3, .s x.name, .s bs0', .i 0, .i 0, .i 0]) P_stp (stp_eqB x) rfl rfl rfl ⟨_, rfl, ?_⟩
        have e : decide (Stp.fv x = [.i 3, .s x.name, .s bs0', .i 0, .i 0, .i 0]) = (decide (x.undo = bs0') && decide (x.tries = 0) && decide (x.undoTries = 0) && decide (x.wait = 0)) := by
          rw [Bool.eq_iff_iff]
          simp [Stp.fv, hk3, and_assoc]
        rw [e]
        refine PIf.intro (fun hq => ?_) (fun hq => ?_)
        · rw [hq, Bool.true_and] at H1
          exact LoadS.mk (hget_lit1 hb rfl) (pNamed_ok ⟨_, rfl, H1⟩)
        · rw [hq, Bool.false_and] at H1
          exact H1
      · have hk3 : x.kind ≠ 3 := by simpa using hk3
        rw [if_neg hk3] at H1
        exact H1

abbrev StpCells (x : Stp) : Array Value := #[.int .i64 x.kind, .string x.name, .string x.undo, .int .i64 x.tries, .int .i64 x.undoTries, .int .i64 x.wait]
theorem app_stp : appB P t_sl_api_Step t_api_Step StpE.w 64 = true := by kernel_rfl
theorem stp_at {h : Heap} {a : Addr} {x : Stp} (c : Cells h a (StpE.enc x)) : hget h a = some (.int .i64 x.kind) ∧ hget h (a.add 1) = some (.string x.name) ∧ hget h (a.add 2) = some (.string x.undo) ∧ hget h (a.add 3) = some (.int .i64 x.tries) ∧ hget h (a.add 4) = some (.int .i64 x.undoTries) ∧ hget h (a.add 5) = some (.int .i64 x.wait) := by
  refine ⟨?_, c 1 _ rfl, c 2 _ rfl, c 3 _ rfl, c 4 _ rfl, c 5 _ rfl⟩
  have := c 0 _ rfl
  rwa [add_zero] at this
theorem pCheck_ok {A : Amb} {h : Heap} {s : Sl} {p : Prg} {R : Value → Heap → Prop} (v : View StpE h s p.steps) (hl : p.steps.length ≤ 1099511627776) (H : ∀ h', Ext h h' → R (.int .i64 (if prgOK p then 0 else 130)) h') :
    HCalls A P f_prog_Check #[.agg #[.slice s.p s.len s.cap, .int .i64 p.limit]] h R := by
  refine ok_prog_Check ?_
  unfold F_prog_Check
  refine New.mk fun h1 _ hb x1 _ => ?_
  refine Join.mk fun K hK => LoadL.mk (s := s) (hget_lit hb rfl) ?_
  rw [v.len]
  have key : ∀ bb : Bool, (bb = true ↔ ¬ (p.steps.length ≤ 16 ∧ inI p.limit 0 16000 = true)) → K (bb, ()) h1 := fun bb hbb => by
    refine hK _ _ ?_
    refine PIf.intro (fun hq => ?_) (fun hq => ?_)
    · have H1 := H h1 x1
      rw [if_neg] at H1
      · exact H1
      · intro hp
        simp only [prgOK, Bool.and_eq_true, decide_eq_true_eq] at hp
        exact hbb.1 hq hp.1
    have hfine : p.steps.length ≤ 16 ∧ inI p.limit 0 16000 = true := Decidable.byContradiction fun hh => by
      have hq : bb = false := hq
      rw [hbb.2 hh] at hq; cases hq
    refine LoadL.mk (s := s) (hget_lit hb rfl) ?_
    refine Loop.rule (fun m x hh => ∃ i : Nat, x = ((i : Int), ()) ∧ Ext h hh ∧ m = p.steps.length - i ∧ i ≤ p.steps.length ∧ (p.steps.take i).all stpOK = true) ?_ ⟨0, rfl, x1, rfl, by omega, rfl⟩
    rintro K1 m _ hh ⟨i, rfl, xe, rfl, hi, hall⟩ hK1
    rw [v.len]
    refine PIf.intro (fun hq2 => ?_) (fun hq2 => ?_)
    · have hil : i < p.steps.length := by simpa using hq2
      obtain ⟨x, hx⟩ : ∃ x, p.steps[i]? = some x := ⟨_, List.getElem?_eq_getElem hil⟩
      rw [← v.len]
      refine (v.ext xe).idx hx fun a _ c => ?_
      obtain ⟨c0, c1, c2, c3, c4, c5⟩ := stp_at c
      refine LoadI.mk c0 (LoadS.mk c1 (LoadS.mk c2 (LoadI.mk c3 (LoadI.mk c4 (LoadI.mk c5 ?_)))))
      refine New.mk fun h2 _ hb2 x2 _ => Store.six hb2 fun h3 hb3 m3 s3 => ?_
      refine LoadI.mk (hget_lit hb3 rfl) (LoadS.mk (hget_lit1 hb3 rfl) (LoadS.mk (hget_lit1 hb3 rfl) (LoadI.mk (hget_lit1 hb3 rfl) (LoadI.mk (hget_lit1 hb3 rfl) (LoadI.mk (hget_lit1 hb3 rfl) ?_)))))
      have x03 : Ext h h3 := (xe.trans x2).more m3 fun b hb => by subst hb; exact xe.size
      refine pright_ok (x := x) fun h4 x4 => ⟨_, rfl, ?_⟩
      have x04 := x03.trans x4
      refine PIf.intro (fun hq3 => ?_) (fun hq3 => ?_)
      · have H1 := H h4 x04
        rw [if_neg] at H1
        · exact H1
        · intro hp
          simp only [prgOK, Bool.and_eq_true, decide_eq_true_eq, List.all_eq_true] at hp
          have := hp.2 x (List.mem_of_getElem? hx)
          rw [this] at hq3; cases hq3
      · dsimp only
        rw [wrap_succ (by omega)]
        refine hK1 (p.steps.length - (i + 1)) _ _ (by omega) ⟨i + 1, rfl, x04, rfl, hil, ?_⟩
        rw [List.take_add_one, hx, Option.toList_some, List.all_append, hall]
        simpa using hq3
    · have hil : i = p.steps.length := by simp at hq2; omega
      rw [List.take_of_length_le (by omega)] at hall
      have H1 := H hh xe
      rw [if_pos (by simp only [prgOK, Bool.and_eq_true, decide_eq_true_eq]; exact ⟨hfine, hall⟩)] at H1
      exact H1
  refine PIf.intro (fun hq => key _ ⟨fun _ h2 => by simp at hq; omega, fun _ => rfl⟩) (fun hq => ?_)
  refine LoadI.mk (hget_lit1 hb rfl) (pwithin_ok ⟨_, rfl, key _ ?_⟩)
  have h16 : p.steps.length ≤ 16 := by simp at hq; omega
  simp [h16]

structure DecS (h : Heap) (b rb b1 : Nat) (lim : Int) (s : Sl) (l : List Stp) (hh : Heap) (r : Rd) : Prop where
  ext : Ext h hh
  zero : hh[b]? = some (.cells #[.slice none 0 0, .int .i64 0] t_api_Program (0, 0))
  rd : RdAt hh rb r
  var : hh[b1]? = some (.cells #[.slice s.p s.len s.cap, .int .i64 lim] t_api_Program (0, 0))
  own : Own StpE t_api_Step hh s l
  fresh : ∀ c, s.blk = some c → h.size ≤ c ∧ c ≠ b ∧ c ≠ rb ∧ c ≠ b1
  ne : h.size ≤ b ∧ h.size ≤ rb ∧ h.size ≤ b1 ∧ b ≠ rb ∧ b ≠ b1 ∧ rb ≠ b1
theorem DecS.read {h : Heap} {b rb b1 : Nat} {lim : Int} {s : Sl} {l : List Stp} {hh h2 : Heap} {r r2 : Rd} (D : DecS h b rb b1 lim s l hh r) (hr : RdAt h2 rb r2) (m : Mod (· = rb) hh h2) : DecS h b rb b1 lim s l h2 r2 :=
  ⟨D.ext.more m fun c hc => by subst hc; exact D.ne.2.1, m.blk D.zero D.ne.2.2.2.1, hr, m.blk D.var D.ne.2.2.2.2.2.symm, D.own.mod m fun c hc => (D.fresh c hc).2.2.1, D.fresh, D.ne⟩
theorem DecS.other {h : Heap} {b rb b1 c : Nat} {lim : Int} {s : Sl} {l : List Stp} {hh h2 : Heap} {r : Rd} (D : DecS h b rb b1 lim s l hh r) (m : Mod (· = c) hh h2) (hc : h.size ≤ c ∧ c ≠ b ∧ c ≠ rb ∧ c ≠ b1 ∧ s.blk ≠ some c) : DecS h b rb b1 lim s l h2 r :=
  ⟨D.ext.more m fun c' hc' => by subst hc'; exact hc.1, m.blk D.zero hc.2.1.symm, m.blk D.rd hc.2.2.1.symm, m.blk D.var hc.2.2.2.1.symm, D.own.mod m fun c' hc' e => hc.2.2.2.2 (by rw [hc', e]), D.fresh, D.ne⟩
theorem DecS.on {h : Heap} {b rb b1 : Nat} {lim : Int} {s : Sl} {l : List Stp} {hh h2 : Heap} {r : Rd} (D : DecS h b rb b1 lim s l hh r) (m : Ext hh h2) : DecS h b rb b1 lim s l h2 r :=
  ⟨D.ext.trans m, m.blk D.zero (fun h => h), m.blk D.rd (fun h => h), m.blk D.var (fun h => h), D.own.ext m, D.fresh, D.ne⟩
theorem DecS.new {h : Heap} {b rb b1 : Nat} {lim : Int} {s : Sl} {l : List Stp} {hh : Heap} {r : Rd} (D : DecS h b rb b1 lim s l hh r) : h.size ≤ hh.size ∧ hh.size ≠ b ∧ hh.size ≠ rb ∧ hh.size ≠ b1 ∧ s.blk ≠ some hh.size := by
  refine ⟨D.ext.size, ?_, ?_, ?_, fun hc => ?_⟩
  · have := blk_lt D.zero; omega
  · have := blk_lt D.rd; omega
  · have := blk_lt D.var; omega
  · have := D.own.lt hc; omega

theorem len_rdStp {bk bt bw : Nat} {all : Bool} (r : Rd) : (rdStp bk bt bw all r).2.rest.length ≤ r.rest.length := by
  have h1 := len_intR bk r
  unfold rdStp
  simp only
  split
  · have h2 := (len_textR (intR bk r).2).1
    have h3 := len_intR bt (textR (intR bk r).2).2
    have h4 := (len_textR (intR bt (textR (intR bk r).2).2).2).1
    have h5 := len_intR bt (textR (intR bt (textR (intR bk r).2).2).2).2
    simp only; omega
  · split
    · have h2 := len_intR bw (intR bk r).2
      simp only; omega
    · split
      · have h2 := (len_textR (intR bk r).2).1
        simp only; omega
      · exact h1

def resPrg (o : Option Prg) (s : Sl) : Value := match o with
  | none => .tuple #[.agg #[.slice none 0 0, .int .i64 0], .int .i64 60]
  | some p => .tuple #[.agg #[.slice s.p s.len s.cap, .int .i64 p.limit], .int .i64 0]
theorem pDecode_ok {A : Amb} {h : Heap} {l : List UInt8} {R : Value → Heap → Prop} (hl : l.length < 1099511627776)
    (H : ∀ h' s, Ext h h' → (∀ p, decPrg l = some p → View StpE h' s p.steps) → R (resPrg (decPrg l) s) h') : HCalls A P f_prog_Decode #[.string (strL l)] h R := by
  refine ok_prog_Decode ?_
  unfold F_prog_Decode
  refine New.mk fun h1 _ hb x1 hs1 => ?_
  refine vRead_ok fun h2 hr2 x2 => ⟨_, rfl, ?_⟩
  refine vInt_ok (most := 16000) hr2 (by simp; omega) (by decide) fun h3 hr3 m3 => ⟨_, rfl, ?_⟩
  refine New.mk fun h4 _ hb4 x4 hs4 => Store.two hb4 fun h6 hb6 m6 hs6 => ?_
  have hrb : h1.size < h2.size := blk_lt hr2
  have hh3 := m3.size
  have hx1 := x1.size
  have D6 : DecS h h.size h1.size h3.size ((intR 16000 ⟨l, false⟩).1 : Int) ⟨none, 0, 0⟩ [] h6 (intR 16000 ⟨l, false⟩).2 := by
    have hz3 : h3[h.size]? = some (.cells #[.slice none 0 0, .int .i64 0] t_api_Program (0, 0)) := m3.blk (x2.blk hb (fun h => h)) (by omega)
    have hr4 := x4.blk hr3 (fun h => h)
    have e3 : Ext h h3 := (x1.trans x2).more m3 fun c hc => by subst hc; omega
    refine ⟨(e3.trans x4).more m6 fun c hc => by subst hc; exact e3.size, m6.blk (x4.blk hz3 (fun h => h)) (by omega), m6.blk hr4 (by omega), hb6, Own.nil, fun c hc => by simp [Sl.blk] at hc, by omega, by omega, by omega, by omega, by omega, by omega⟩
  have hl6 : (intR 16000 ⟨l, false⟩).2.rest.length ≤ l.length := len_intR 16000 ⟨l, false⟩
  refine vInt_ok (most := 16) D6.rd (by omega) (by decide) fun h7 hr7 m7 => ⟨_, rfl, ?_⟩
  have D7 := D6.read hr7 m7
  have hl7 := len_intR 16 (intR 16000 ⟨l, false⟩).2
  generalize hlim : (intR 16000 ⟨l, false⟩).1 = lim at *
  generalize hr1 : (intR 16000 ⟨l, false⟩).2 = r1 at *
  have hk16 : (intR 16 r1).1 ≤ 16 := by
    unfold intR
    split
    · exact Nat.zero_le _
    · split
      · exact Nat.zero_le _
      · omega
  have eP : rdPrg 16000 3 5 1000 false l = (⟨(rdStps 3 5 1000 false (intR 16 r1).1 (intR 16 r1).2).1, lim⟩, (rdStps 3 5 1000 false (intR 16 r1).1 (intR 16 r1).2).2) := by
    simp only [rdPrg, hlim, hr1]
  generalize hb0 : h.size = b at *
  generalize hrb0 : h1.size = rb at *
  generalize hb10 : h3.size = b1 at *
  clear hb hr2 hr3 hb4 hb6 x1 x2 x4 m3 m6 m7 hs1 hs4 hs6 hr7
  refine Loop.rule (fun m x hh => ∃ (k : Nat) (s : Sl) (ls : List Stp) (r : Rd), x = ((k : Int), ()) ∧ DecS h b rb b1 lim s ls hh r ∧ m = k ∧ r.rest.length ≤ l.length ∧ ls.length + k ≤ 16 ∧
    rdPrg 16000 3 5 1000 false l = (⟨ls ++ (rdStps 3 5 1000 false k r).1, lim⟩, (rdStps 3 5 1000 false k r).2)) ?_ ⟨(intR 16 r1).1, ⟨none, 0, 0⟩, [], (intR 16 r1).2, rfl, D7, rfl, by omega, by simpa using hk16, eP⟩
  rintro K m _ hh ⟨k, s, ls, r, rfl, D, hm, hlr, hk, eP⟩ hK
  refine PIf.intro (fun hq => ?_) (fun hq => ?_)
  · have hk0 : 0 < k := by simp at hq; omega
    obtain ⟨k', rfl⟩ : ∃ k', k = k' + 1 := ⟨k - 1, by omega⟩
    refine vInt_ok (most := 3) D.rd (by omega) (by decide) fun h8 hr8 m8 => ⟨_, rfl, ?_⟩
    have D8 := D.read hr8 m8
    have hl8 := len_intR 3 r
    refine New.mk fun h9 _ hb9 x9 hs9 => Store.six hb9 fun h10 hb10 m10 hs10 => ?_
    have hc := D8.new
    have D10 := (D8.on x9).other m10 hc
    generalize h8.size = b2 at *
    refine LoadI.mk (hget_lit hb10 rfl) ?_
    refine Join.mk fun K1 hK1 => ?_
    have fin : ∀ (x : Stp) (r' : Rd) (hh' : Heap), DecS h b rb b1 lim s ls hh' r' → hh'[b2]? = some (.cells (StpCells x) t_api_Step (0, 0)) → rdStp 3 5 1000 false r = (x, r') → K1 () hh' := fun x r' hh' D' hb' e => by
      refine hK1 _ _ ?_
      refine LoadL.mk (s := s) (hget_lit D'.var rfl) ?_
      refine LoadI.mk (hget_lit hb' rfl) (LoadS.mk (hget_lit1 hb' rfl) (LoadS.mk (hget_lit1 hb' rfl) (LoadI.mk (hget_lit1 hb' rfl) (LoadI.mk (hget_lit1 hb' rfl) (LoadI.mk (hget_lit1 hb' rfl) ?_)))))
      refine New.append1 (E := StpE) (x := x) (s := s) (l := ls) rfl app_stp D'.own (by omega) (by simp [maxLen]; omega) fun s' h' o' m' hb' hn' => ?_
      have hsb : s.blk ≠ some b1 := fun hc => (D'.fresh _ hc).2.2.2 rfl
      have hsb0 : s.blk ≠ some b := fun hc => (D'.fresh _ hc).2.1 rfl
      have hsr : s.blk ≠ some rb := fun hc => (D'.fresh _ hc).2.2.1 rfl
      have fresh' : ∀ c, s'.blk = some c → h.size ≤ c ∧ c ≠ b ∧ c ≠ rb ∧ c ≠ b1 := fun c hc => by
        rcases hb' c hc with h1 | h1
        · exact D'.fresh c h1
        · have q1 := blk_lt D'.zero
          have q2 := blk_lt D'.rd
          have q3 := blk_lt D'.var
          have q4 := D'.ext.size
          omega
      refine Store.mk (m'.blk D'.var hsb) (by simp) fun h'' hb'' m'' hs'' => ?_
      rw [show ((((k' + 1 : Nat) : Int), ()) : Int × Unit).1 - (1 : Int) = ((k' : Nat) : Int) by simp, wrap_nat (by omega)]
      have e' : rdStps 3 5 1000 false (k' + 1) r = (x :: (rdStps 3 5 1000 false k' r').1, (rdStps 3 5 1000 false k' r').2) := by simp only [rdStps, e]
      refine hK k' _ _ (by omega) ⟨k', s', ls ++ [x], r', rfl, ⟨?_, ?_, ?_, by simpa using hb'', ?_, fresh', D'.ne⟩, rfl, ?_, by simp; omega, ?_⟩
      · exact (D'.ext.more m' fun c hc => (D'.fresh c hc).1).more m'' fun c hc => by subst hc; exact D'.ne.2.2.1
      · exact m''.blk (m'.blk D'.zero hsb0) D'.ne.2.2.2.2.1
      · exact m''.blk (m'.blk D'.rd hsr) D'.ne.2.2.2.2.2
      · exact o'.mod m'' fun c hc => (fresh' c hc).2.2.2
      · have := len_rdStp (bk := 3) (bt := 5) (bw := 1000) (all := false) r
        rw [e] at this
        simp only at this; omega
      · rw [eP, e']; simp
    refine PIf.intro (fun hq1 => ?_) (fun hq1 => ?_)
    · have hk1 : (intR 3 r).1 = 1 := by simp at hq1; omega
      have hla := (len_textR (intR 3 r).2).1
      have hlb := len_intR 5 (textR (intR 3 r).2).2
      have hlc := (len_textR (intR 5 (textR (intR 3 r).2).2).2).1
      refine vRText_ok D10.rd (by omega) fun h11 hr11 m11 => ⟨_, rfl, ?_⟩
      have D11 := D10.read hr11 m11
      have hb11 := m11.blk hb10 hc.2.2.1
      refine vInt_ok (most := 5) D11.rd (by omega) (by decide) fun h12 hr12 m12 => ⟨_, rfl, ?_⟩
      have D12 := D11.read hr12 m12
      have hb12 := m12.blk hb11 hc.2.2.1
      refine Store.at1 hb12 (by simp) rfl fun h13 hb13 m13 s13 => Store.at1 hb13 (by simp) rfl fun h14 hb14 m14 s14 => ?_
      have D14 := (D12.other m13 hc).other m14 hc
      refine vRText_ok D14.rd (by omega) fun h15 hr15 m15 => ⟨_, rfl, ?_⟩
      have D15 := D14.read hr15 m15
      have hb15 := m15.blk hb14 hc.2.2.1
      refine vInt_ok (most := 5) D15.rd (by omega) (by decide) fun h16 hr16 m16 => ⟨_, rfl, ?_⟩
      have D16 := D15.read hr16 m16
      have hb16 := m16.blk hb15 hc.2.2.1
      refine Store.at1 hb16 (by simp) rfl fun h17 hb17 m17 s17 => Store.at1 hb17 (by simp) rfl fun h18 hb18 m18 s18 => ?_
      have D18 := (D16.other m17 hc).other m18 hc
      refine fin ⟨1, strL (textR (intR 3 r).2).1, strL (textR (intR 5 (textR (intR 3 r).2).2).2).1, (intR 5 (textR (intR 3 r).2).2).1, (intR 5 (textR (intR 5 (textR (intR 3 r).2).2).2).2).1, 0⟩ _ h18 D18 ?_ ?_
      · rw [hb18, hk1]; rfl
      · simp only [rdStp]
        rw [if_pos hk1]
    · have hk1 : (intR 3 r).1 ≠ 1 := by simp at hq1; omega
      refine PIf.intro (fun hq2 => ?_) (fun hq2 => ?_)
      · have hk2 : (intR 3 r).1 = 2 := by simp at hq2; omega
        refine vInt_ok (most := 1000) D10.rd (by omega) (by decide) fun h11 hr11 m11 => ⟨_, rfl, ?_⟩
        have D11 := D10.read hr11 m11
        have hb11 := m11.blk hb10 hc.2.2.1
        refine Store.at1 hb11 (by simp) rfl fun h12 hb12 m12 s12 => ?_
        refine fin ⟨2, bs0', bs0', 0, 0, (intR 1000 (intR 3 r).2).1⟩ _ h12 (D11.other m12 hc) ?_ ?_
        · rw [hb12, hk2]; rfl
        · simp only [rdStp]
          rw [if_neg hk1, if_pos hk2]
      · have hk2 : (intR 3 r).1 ≠ 2 := by simp at hq2; omega
        refine PIf.intro (fun hq3 => ?_) (fun hq3 => ?_)
        · have hk3 : (intR 3 r).1 = 3 := by simp at hq3; omega
          refine vRText_ok D10.rd (by omega) fun h11 hr11 m11 => ⟨_, rfl, ?_⟩
          have D11 := D10.read hr11 m11
          have hb11 := m11.blk hb10 hc.2.2.1
          refine Store.at1 hb11 (by simp) rfl fun h12 hb12 m12 s12 => ?_
          refine fin ⟨(intR 3 r).1, strL (textR (intR 3 r).2).1, bs0', 0, 0, 0⟩ _ h12 (D11.other m12 hc) ?_ ?_
          · rw [hb12]; rfl
          · simp only [rdStp]
            rw [if_neg hk1, if_neg hk2, if_pos (.inl hk3)]
        · have hk3 : (intR 3 r).1 ≠ 3 := by simp at hq3; omega
          refine fin ⟨(intR 3 r).1, bs0', bs0', 0, 0, 0⟩ _ h10 D10 hb10 ?_
          simp only [rdStp]
          rw [if_neg hk1, if_neg hk2, if_neg (by simp [hk3])]
  · have hk0 : k = 0 := by simp at hq; omega
    subst hk0
    simp only [rdStps, List.append_nil] at eP
    refine Join.mk fun K2 hK2 => ?_
    refine vEnd_ok D.rd ⟨_, rfl, ?_⟩
    have eD : decPrg l = if endR r && prgOK ⟨ls, lim⟩ then some ⟨ls, lim⟩ else none := by unfold decPrg; rw [eP]
    have bad : decPrg l = none → ∀ hh', DecS h b rb b1 lim s ls hh' r → K2 (true, ()) hh' := fun e hh' D' => by
      refine hK2 _ _ (PIf.yes rfl ?_)
      refine Store.two D'.zero fun h9 hb9 m9 s9 => LoadL.mk (s := ⟨none, 0, 0⟩) (hget_lit hb9 rfl) (LoadI.mk (hget_lit1 hb9 rfl) ?_)
      have := H h9 ⟨none, 0, 0⟩ (D'.ext.more m9 fun c hc => by subst hc; exact D'.ne.1) (fun p hp => by rw [e] at hp; cases hp)
      rw [e] at this
      exact this
    refine PIf.intro (fun hq1 => ?_) (fun hq1 => ?_)
    · have he : endR r = false := by simpa using hq1
      exact bad (by rw [eD, he]; rfl) hh D
    · have he : endR r = true := by simpa using hq1
      refine LoadL.mk (s := s) (hget_lit D.var rfl) (LoadI.mk (hget_lit1 D.var rfl) ?_)
      refine pCheck_ok (p := ⟨ls, lim⟩) D.own.view (by simp only; omega) fun h8 x8 => ⟨_, rfl, ?_⟩
      have D8 := D.on x8
      cases hok : prgOK ⟨ls, lim⟩ with
      | false => exact bad (by rw [eD, hok, Bool.and_false]; rfl) h8 D8
      | true =>
        refine hK2 _ _ (PIf.no rfl ?_)
        have e : decPrg l = some ⟨ls, lim⟩ := by rw [eD, he, hok]; rfl
        refine LoadL.mk (s := s) (hget_lit D8.var rfl) (LoadI.mk (hget_lit1 D8.var rfl) ?_)
        refine Store.two D8.zero fun h9 hb9 m9 s9 => LoadL.mk (s := s) (hget_lit hb9 rfl) (LoadI.mk (hget_lit1 hb9 rfl) ?_)
        have := H h9 s (D8.ext.more m9 fun c hc => by subst hc; exact D8.ne.1) (fun p hp => by
          rw [e] at hp
          obtain rfl := Option.some.inj hp
          exact (D8.own.mod m9 fun c hc => (D8.fresh c hc).2.1).view)
        rw [e] at this
        exact this
end Go.Lf.G

