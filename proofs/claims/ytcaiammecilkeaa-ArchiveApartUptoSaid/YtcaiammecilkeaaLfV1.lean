/-
  Contracts: numbers and texts as bytes (chapter 1), and what reads them.
-/
import Derived.Test.YtcaiammecilkeaaLfG1
import Derived.Test.YtcaiammecilkeaaLfU9
import Derived.Test.YtcaiammecilkeaaLfU4
set_option maxRecDepth 100000
set_option linter.unusedVariables false
set_option linter.unusedSimpArgs false
namespace Go.Lf.G
open Go

theorem P_str : P.underlying t_string = some .string := by kernel_rfl
theorem P_u8 : P.underlying t_uint8 = some (.int .u8) := by kernel_rfl
theorem P_slu8 : P.underlying t_sl_uint8 = some (.slice t_uint8) := by kernel_rfl
theorem app_u8 : appB P t_sl_uint8 t_uint8 ByteE.w 1 = true := by kernel_rfl

theorem vPut_ok {A : Amb} {h : Heap} {n : Nat} {R : Value → Heap → Prop} (hn : n < 18446744073709551616) (H : ∀ h', Ext h h' → R (.string (strL (putV n))) h') : HCalls A P f_vary_Put #[.int .u64 (n : Int)] h R := by
  refine ok_vary_Put ?_
  unfold F_vary_Put
  have hl10 := putV_len10 hn
  refine Loop.rule (fun m x hh => ∃ (k : Nat) (s : Sl) (d : List UInt8), x = ((k : Int), s, ()) ∧ Own ByteE t_uint8 hh s d ∧ Ext h hh ∧ (∀ b, s.blk = some b → h.size ≤ b) ∧ putV n = d ++ putV k ∧ m = k) ?_
    ⟨n, ⟨none, 0, 0⟩, [], rfl, Own.nil, Mod.refl, fun b hb => by simp [Sl.blk] at hb, rfl, rfl⟩
  rintro K m _ hh ⟨k, s, d, rfl, o, x, hs, e, hm⟩ hK
  have hd : d.length ≤ 10 := by rw [e] at hl10; simp at hl10; omega
  refine PIf.intro (fun hq => ?_) (fun hq => ?_)
  · have hk : ¬ k < 128 := by simp at hq; omega
    refine New.append1 (E := ByteE) (x := byteN (k % 128 + 128)) (s := s) (l := d) (by dsimp only [ByteE]; rw [put_byte]) app_u8 o (by simp; omega) (by simp [maxLen]; omega) fun s' h' o' m' hb' hn' => ?_
    refine hK (k / 128) _ _ (by omega) ⟨k / 128, s', d ++ [byteN (k % 128 + 128)], ?_, o', x.more m' hs, fun b hb => ?_, ?_, rfl⟩
    · dsimp only
      rw [fdiv_nat k 7]
    · rcases hb' b hb with h1 | h1
      · exact hs b h1
      · have := x.size; omega
    · rw [e, putV_big hk]; simp
  · have hk : k < 128 := by simp at hq; omega
    refine New.append1 (E := ByteE) (x := byteN k) (s := s) (l := d) (by dsimp only [ByteE]; rw [byteN_nat (show k < 256 by omega), wrap_u8, Nat.mod_eq_of_lt (show k < 256 by omega)]) app_u8 o (by simp; omega) (by simp [maxLen]; omega) fun s' h' o' m' hb' hn' => ?_
    refine bytes_str P_slu8 P_u8 P_str o'.view ⟨_, rfl, ?_⟩
    have e2 : d ++ [byteN k] = putV n := by rw [e, putV_small hk]
    rw [e2]
    exact H _ (x.more m' hs)

theorem ite_lt10 (n : Nat) : (if (10 : Int) < (n : Int) then (10 : Int) else (n : Int)) = ((min n 10 : Nat) : Int) := by split <;> omega

theorem vGet_ok {A : Amb} {h : Heap} {s : ByteArray} {R : Value → Heap → Prop} (hs : s.size ≤ 1099511627776)
    (H0 : getV 0 0 s.data.toList = none → R (.tuple #[.int .u64 0, .string ⟨#[]⟩, .bool false]) h)
    (H1 : ∀ n t, getV 0 0 s.data.toList = some (n, t) → R (.tuple #[.int .u64 (n : Int), .string (strL t), .bool true]) h) : HCalls A P f_vary_Get #[.string s] h R := by
  refine ok_vary_Get ?_
  unfold F_vary_Get
  have hls : s.data.toList.length = s.size := by rw [Array.length_toList]; rfl
  refine Loop.rule (fun m x hh => ∃ (i a : Nat), x = ((a : Int), (i : Int), ()) ∧ hh = h ∧ i ≤ s.size ∧ i ≤ 10 ∧ a < 128 ^ i ∧ getV 0 0 s.data.toList = getV i a (s.data.toList.drop i) ∧ m = 10 - i) ?_
    ⟨0, 0, rfl, rfl, by omega, by omega, by simp, rfl, rfl⟩
  rintro K m _ hh ⟨i, a, rfl, e, hi, h10, ha, hg, hm⟩ hK
  subst hh
  dsimp only
  rw [ite_lt10]
  refine PIf.intro (fun hq => ?_) (fun hq => ?_)
  · have hi1 : i < s.size ∧ i < 10 := by simp at hq; omega
    have hil : i < s.data.toList.length := by omega
    refine ⟨⟨by omega, by omega⟩, ?_⟩
    obtain ⟨c, hc⟩ : ∃ c, s.data.toList[i]? = some c := ⟨_, List.getElem?_eq_getElem hil⟩
    have hdrop : s.data.toList.drop i = c :: s.data.toList.drop (i + 1) := by
      rw [List.drop_eq_getElem_cons hil]
      rw [List.getElem?_eq_getElem hil] at hc
      rw [Option.some.inj hc]
    have hc256 : c.toNat < 256 := c.toNat_lt
    rw [sAt_nat hc]
    have hbad : ((i = 9 ∧ 1 < c.toNat) ∨ (0 < i ∧ c.toNat = 0)) → getV 0 0 s.data.toList = none := fun hb => by
      rw [hg, hdrop, getV, if_pos (.inr hb)]
    have hgo : ¬ ((i = 9 ∧ 1 < c.toNat) ∨ (0 < i ∧ c.toNat = 0)) → getV 0 0 s.data.toList = if c.toNat < 128 then some (a + c.toNat * 128 ^ i, s.data.toList.drop (i + 1)) else getV (i + 1) (a + c.toNat % 128 * 128 ^ i) (s.data.toList.drop (i + 1)) := fun hb => by
      rw [hg, hdrop, getV, if_neg (fun h => h.elim (by omega) hb)]
    refine Join.mk fun K1 hK1 => ?_
    have key : ∀ (b : Bool), (b = true ↔ ((i = 9 ∧ 1 < c.toNat) ∨ (0 < i ∧ c.toNat = 0))) → K1 (b, ()) h := fun b hb => by
      refine hK1 _ _ ?_
      refine PIf.intro (fun hb1 => H0 (hbad (hb.1 hb1))) (fun hb0 => ?_)
      have hnb : ¬ ((i = 9 ∧ 1 < c.toNat) ∨ (0 < i ∧ c.toNat = 0)) := fun h => by rw [hb.2 h] at hb0; cases hb0
      have hg2 := hgo hnb
      have e7 : IntKind.wrap .i64 ((7 : Int) * (i : Int)) = ((7 * i : Nat) : Int) := by rw [show (7 : Int) * (i : Int) = ((7 * i : Nat) : Int) by simp]; exact wrap_nat (by omega)
      have e127 : bAnd .u8 (c.toNat : Int) (127 : Int) = ((c.toNat % 128 : Nat) : Int) := by
        have := and_u8 (a := c.toNat) (b := 127) hc256 (by decide)
        rw [and127 _ hc256] at this
        exact this
      have ew : IntKind.wrap .u64 ((c.toNat % 128 : Nat) : Int) = ((c.toNat % 128 : Nat) : Int) := by rw [wrap_u64, Nat.mod_eq_of_lt (by omega)]
      rw [e7, e127, ew, shift7 (by omega) (Nat.mod_lt _ (by decide)), step_or (by omega) ha (Nat.mod_lt _ (by decide)), wrap_succ (by omega)]
      have h9 := pow128_le (show i ≤ 9 by omega)
      have e9 : (128 : Nat) ^ 9 = 9223372036854775808 := by decide
      have hmod : c.toNat % 128 * 128 ^ i % 18446744073709551616 = c.toNat % 128 * 128 ^ i := by
        refine Nat.mod_eq_of_lt ?_
        by_cases hi9 : i = 9
        · subst hi9
          have : c.toNat ≤ 1 := by omega
          rw [e9]; omega
        · have h8 := pow128_le (show i ≤ 8 by omega)
          have e8 : (128 : Nat) ^ 8 = 72057594037927936 := by decide
          have : c.toNat % 128 * 128 ^ i ≤ 127 * 128 ^ i := Nat.mul_le_mul_right _ (by omega)
          omega
      rw [hmod]
      refine ⟨by omega, ?_⟩
      refine PIf.intro (fun hq => ?_) (fun hq => ?_)
      · have hlow : c.toNat < 128 := by simp at hq; omega
        rw [if_pos hlow] at hg2
        refine ⟨⟨by omega, by omega⟩, ?_⟩
        have := H1 _ _ hg2
        rw [Nat.mod_eq_of_lt hlow]
        have e : s.extract ((i + 1 : Nat) : Int).toNat s.size = strL (s.data.toList.drop (i + 1)) := ext_drop _ _
        rw [e]
        exact this
      · have hlow : ¬ c.toNat < 128 := by simp at hq; omega
        rw [if_neg hlow] at hg2
        refine hK (10 - (i + 1)) _ _ (by omega) ⟨i + 1, a + c.toNat % 128 * 128 ^ i, rfl, rfl, by omega, by omega, ?_, hg2, rfl⟩
        have : (c.toNat % 128 + 1) * 128 ^ i ≤ 128 * 128 ^ i := Nat.mul_le_mul_right _ (by omega)
        rw [Nat.add_mul] at this
        rw [Nat.pow_succ, Nat.mul_comm (128 ^ i)]
        omega
    refine PIf.intro (fun hq => ?_) (fun hq => ?_)
    · have hi9 : i = 9 := by simp at hq; omega
      refine PIf.intro (fun hq2 => key _ ⟨fun _ => .inl ⟨hi9, by simp at hq2; omega⟩, fun _ => rfl⟩) (fun hq2 => ?_)
      refine PIf.intro (fun hq3 => key _ ⟨fun hz => .inr ⟨by omega, by simp at hz; omega⟩, fun hz => by simp at hq2 ⊢; omega⟩) (fun hq3 => ?_)
      simp at hq3; omega
    · have hi9 : i ≠ 9 := by simp at hq; omega
      refine PIf.intro (fun hq3 => key _ ⟨fun hz => .inr ⟨by simp at hq3; omega, by simp at hz; omega⟩, fun hz => (by simp; omega)⟩) (fun hq3 => key _ ⟨(fun hz => (by cases hz)), fun hz => (by simp at hq3; omega)⟩)
  · have hi1 : s.size = i ∨ i = 10 := by simp at hq; omega
    refine H0 ?_
    rw [hg]
    rcases hi1 with h1 | h1
    · rw [List.drop_of_length_le (by omega)]; rfl
    · cases hd : s.data.toList.drop i with
      | nil => rfl
      | cons c t => rw [getV, if_pos (.inl (by omega))]
end Go.Lf.G
