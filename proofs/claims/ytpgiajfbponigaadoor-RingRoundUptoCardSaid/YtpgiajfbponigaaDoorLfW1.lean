/-
  Contracts: a key's hash, places, turns, owners (chapters 6 and 11).
-/
import Derived.Test.YtpgiajfbponigaaDoorLfG1
import Derived.Test.YtpgiajfbponigaaDoorLfS1
import Derived.Test.YtpgiajfbponigaaDoorLfU7
import Derived.Test.YtpgiajfbponigaaDoorLfU4
set_option maxRecDepth 100000
set_option linter.unusedVariables false
set_option linter.unusedSimpArgs false
namespace Go.Lf.G
open Go

theorem atI {a : Addr} {K : Addr → Prop} (h : K a) : At (some a) K := h
theorem max_i64 : IntKind.max .i64 = 9223372036854775807 := by simp [IntKind.max, IntKind.bits, IntKind.signed]
theorem wrap_i64 {n : Int} (h1 : -9223372036854775808 ≤ n) (h2 : n ≤ 9223372036854775807) : IntKind.wrap .i64 n = n := by
  simp only [IntKind.wrap, IntKind.bits, IntKind.signed]
  simp
  omega
theorem app_str : appB P t_sl_string t_string StrE.w 16 = true := by kernel_rfl
theorem P_int : P.underlying t_int = some (.int .i64) := by kernel_rfl
theorem P_f64 : P.underlying t_float64 = some (.float .f64) := by kernel_rfl

/-! ### hash -/
theorem bytes_get {k : ByteArray} {i : Nat} (hi : i < k.size) : ∃ c, k.data.toList[i]? = some c := by
  have : i < k.data.toList.length := by simpa using hi
  exact ⟨_, List.getElem?_eq_getElem this⟩
theorem Hash_ok {A : Amb} {h : Heap} {key : ByteArray} {R : Value → Heap → Prop} (hk : key.size ≤ 1099511627776) (H : R (.tuple #[.int .u32 (hash1 key : Int), .int .u32 (hash2 key : Int)]) h) : HCalls A P f_bloom_Hash #[.string key] h R := by
  refine ok_bloom_Hash ?_
  unfold F_bloom_Hash
  refine Loop.rule (fun m x hh => ∃ i : Nat, x = (((hashL (key.data.toList.take i)).1 : Int), ((hashL (key.data.toList.take i)).2 : Int), (i : Int), ()) ∧ hh = h ∧ m = key.size - i ∧ i ≤ key.size) ?_ ⟨0, rfl, rfl, rfl, by omega⟩
  rintro K m _ hh ⟨i, rfl, e, rfl, hi⟩ hK
  subst e
  obtain ⟨l1, l2⟩ := hashL_lt (key.data.toList.take i)
  refine PIf.intro (fun hq => ?_) (fun hq => ?_)
  · have hil : i < key.size := by simpa using hq
    obtain ⟨c, hc⟩ := bytes_get hil
    have hc256 : c.toNat < 256 := c.toNat_lt
    refine ⟨⟨by dsimp only; omega, by dsimp only; omega⟩, ⟨by dsimp only; omega, by dsimp only; omega⟩, ?_⟩
    dsimp only
    rw [sAt_nat hc, stepA l1 hc256, stepB l2 hc256, wrap_succ (by omega)]
    refine hK (key.size - (i + 1)) _ _ (by omega) ⟨i + 1, ?_, rfl, rfl, hil⟩
    rw [List.take_add_one, hc, Option.toList_some, hashL_snoc]
  · have hil : i = key.size := by simp at hq; omega
    have e : key.data.toList.take i = key.data.toList := List.take_of_length_le (by simp [hil])
    dsimp only
    rw [e] at l1 l2 ⊢
    have : bOr .u32 (((hashL key.data.toList).2 : Nat) : Int) (1 : Int) = ((hash2 key : Nat) : Int) := or_u32 l2 (b := 1) (by decide)
    rw [this]
    exact H
theorem rHash_ok {A : Amb} {h : Heap} {key : ByteArray} {R : Value → Heap → Prop} (hk : key.size ≤ 1099511627776) (H : R (.tuple #[.int .u32 (hash1 key : Int), .int .u32 (hash2 key : Int)]) h) : HCalls A P f_wherryref06_Hash #[.string key] h R := by
  refine ok_wherryref06_Hash ?_
  unfold F_wherryref06_Hash
  refine Loop.rule (fun m x hh => ∃ i : Nat, x = (((hashL (key.data.toList.take i)).1 : Int), ((hashL (key.data.toList.take i)).2 : Int), (i : Int), ()) ∧ hh = h ∧ m = key.size - i ∧ i ≤ key.size) ?_ ⟨0, rfl, rfl, rfl, by omega⟩
  rintro K m _ hh ⟨i, rfl, e, rfl, hi⟩ hK
  subst e
  obtain ⟨l1, l2⟩ := hashL_lt (key.data.toList.take i)
  refine PIf.intro (fun hq => ?_) (fun hq => ?_)
  · have hil : i < key.size := by simpa using hq
    obtain ⟨c, hc⟩ := bytes_get hil
    have hc256 : c.toNat < 256 := c.toNat_lt
    refine ⟨⟨by dsimp only; omega, by dsimp only; omega⟩, ⟨by dsimp only; omega, by dsimp only; omega⟩, ?_⟩
    dsimp only
    rw [sAt_nat hc, stepA' l1 hc256, stepB' l2 hc256, wrap_succ (by omega)]
    refine hK (key.size - (i + 1)) _ _ (by omega) ⟨i + 1, ?_, rfl, rfl, hil⟩
    rw [List.take_add_one, hc, Option.toList_some, hashL_snoc]
  · have hil : i = key.size := by simp at hq; omega
    have e : key.data.toList.take i = key.data.toList := List.take_of_length_le (by simp [hil])
    dsimp only
    rw [e] at l1 l2 ⊢
    have h2 : bOr .u64 (((hashL key.data.toList).2 : Nat) : Int) (1 : Int) = ((hash2 key : Nat) : Int) := or_u64 (by omega) (b := 1) (by decide)
    have h3 := hash2_lt key
    rw [h2, wrap_u32, wrap_u32, Nat.mod_eq_of_lt l1, Nat.mod_eq_of_lt h3]
    exact H

/-! ### places -/
theorem vr0 : VR 0 0 := vr_zero false
theorem vr1 : VR 4607182418800017408 1 := by
  have h := vr_int (n := 1) (by decide)
  have e : floatOfInt .f64 1 = 4607182418800017408 := by kernel_rfl
  rwa [e] at h
theorem vrm1 : VR 13830554455654793216 (-1) := by
  have h := vr_int (n := -1) (by decide)
  have e : floatOfInt .f64 (-1) = 13830554455654793216 := by kernel_rfl
  rwa [e] at h
theorem vr1024 : VR 4652218415073722368 1024 := by
  have h := vr_int (n := 1024) (by decide)
  have e : floatOfInt .f64 1024 = 4652218415073722368 := by kernel_rfl
  rwa [e] at h
theorem vrm1024 : VR 13875590451928498176 (-1024) := by
  have h := vr_int (n := -1024) (by decide)
  have e : floatOfInt .f64 (-1024) = 13875590451928498176 := by kernel_rfl
  rwa [e] at h
theorem vr1023 : VR 4652209618980700160 1023 := by
  have h := vr_int (n := 1023) (by decide)
  have e : floatOfInt .f64 1023 = 4652209618980700160 := by kernel_rfl
  rwa [e] at h

/-- a place's number times one of the four units -/
theorem cmulV_ok {A : Amb} {h : Heap} {t : TypeId} {o1 o2 : Operand} {a b c d : Nat} {n m x y : Int} {K : Value → Heap → Prop} (ha : VR a n) (hb : VR b m) (hc : VR c x) (hd : VR d y)
    (q1 : (n * x).natAbs ≤ 4096) (q2 : (m * y).natAbs ≤ 4096) (q3 : (n * y).natAbs ≤ 4096) (q4 : (m * x).natAbs ≤ 4096) (H : ∀ e f, VR e (n * x - m * y) → VR f (n * y + m * x) → K (.complex .f64 e f) h) :
    RunK A P (cop .mul t o1 o2 a b c d) h K := by
  obtain ⟨r1, h1, v1⟩ := ha.mul hc (by omega)
  obtain ⟨r2, h2, v2⟩ := hb.mul hd (by omega)
  obtain ⟨e, h3, v3⟩ := v1.sub v2 (by omega)
  obtain ⟨r3, h4, v4⟩ := ha.mul hd (by omega)
  obtain ⟨r4, h5, v5⟩ := hb.mul hc (by omega)
  obtain ⟨f, h6, v6⟩ := v4.add v5 (by omega)
  exact cmul_ok h1 h2 h3 h4 h5 h6 (H e f v3 v6)

theorem Place_ok {A : Amb} {h : Heap} {name : ByteArray} {R : Value → Heap → Prop} (hk : name.size ≤ 1099511627776) (H : ∀ p, CP p (stepsN name) → R (.complex .f64 p.1 p.2) h) : HCalls A P f_ring_Place #[.string name] h R := by
  refine ok_ring_Place ?_
  unfold F_ring_Place
  refine Hash_ok hk ⟨_, _, rfl, ?_⟩
  have g1 := hash1_lt name
  have g2 := hash2_lt name
  have g3 : hash2 name / 2 ^ 7 ≤ hash2 name := Nat.div_le_self _ _
  have ht := stepsN_lt name
  have ex : bXor .u32 (hash1 name : Int) ((hash2 name : Int).fdiv ((2 : Int) ^ (7 : Nat))) = ((hash1 name ^^^ (hash2 name / 128) : Nat) : Int) := by rw [fdiv_nat, xor_u32 g1 (by omega)]
  have et : IntKind.wrap .i64 ((bXor .u32 (hash1 name : Int) ((hash2 name : Int).fdiv ((2 : Int) ^ (7 : Nat)))).tmod (4096 : Int)) = ((stepsN name : Nat) : Int) := by
    rw [ex, show ((hash1 name ^^^ (hash2 name / 128) : Nat) : Int).tmod (4096 : Int) = ((stepsN name : Nat) : Int) from (Int.ofNat_tmod _ 4096).symm, wrap_nat (by omega)]
  rw [et]
  generalize stepsN name = t at *
  have e1 : ((t : Nat) : Int).tmod (1024 : Int) = ((t % 1024 : Nat) : Int) := (Int.ofNat_tmod t 1024).symm
  have e2 : IntKind.wrap .i64 (((t : Nat) : Int).tdiv (1024 : Int)) = ((t / 1024 : Nat) : Int) := by
    rw [show ((t : Nat) : Int).tdiv (1024 : Int) = ((t / 1024 : Nat) : Int) from (Int.ofNat_tdiv t 1024).symm, wrap_nat (by omega)]
  rw [e1, e2, wrap_i64 (by omega) (by omega)]
  refine i2f_ok P_int P_f64 ⟨_, rfl, i2f_ok P_int P_f64 ⟨_, rfl, complex_ok ⟨(_, _), rfl, ?_⟩⟩⟩
  have hr : t % 1024 < 1024 := Nat.mod_lt _ (by decide)
  have v1 := vr_int (n := (1024 : Int) - ((t % 1024 : Nat) : Int)) (by omega)
  have v2 := vr_int (n := ((t % 1024 : Nat) : Int)) (by omega)
  obtain ⟨f1, f2⟩ := place_first hr
  refine Loop.rule (fun m x hh => ∃ (j : Nat) (p : Nat × Nat), x = (p, (j : Int), ()) ∧ hh = h ∧ m = t / 1024 - j ∧ j ≤ t / 1024 ∧ VR p.1 (px (t % 1024 + 1024 * j)) ∧ VR p.2 (py (t % 1024 + 1024 * j))) ?_
    ⟨0, _, rfl, rfl, rfl, by omega, by rw [Nat.mul_zero, Nat.add_zero, f2]; exact v1, by rw [Nat.mul_zero, Nat.add_zero, f1]; exact v2⟩
  rintro K m _ hh ⟨j, p, rfl, e, rfl, hj, w1, w2⟩ hK
  subst e
  refine PIf.intro (fun hq => ?_) (fun hq => ?_)
  · have hjt : j < t / 1024 := by
      have h : ((j : Nat) : Int) < ((t / 1024 : Nat) : Int) := of_decide_eq_true hq
      omega
    have hlt : t % 1024 + 1024 * j < 3072 := by omega
    obtain ⟨b1, b2, b3, b4⟩ := place_le (t := t % 1024 + 1024 * j) (by omega)
    refine cmulV_ok w1 w2 vr0 vr1 (by simp) (by simp; omega) (by simp; omega) (by simp) fun e f ve vf => ⟨(e, f), rfl, ?_⟩
    obtain ⟨o1, o2⟩ := place_on hlt
    refine hK (t / 1024 - (j + 1)) _ _ (by omega) ⟨j + 1, _, by rw [wrap_succ (by omega)], rfl, rfl, hjt, ?_, ?_⟩
    · rw [show t % 1024 + 1024 * (j + 1) = t % 1024 + 1024 * j + 1024 by omega, o1]; simpa using ve
    · rw [show t % 1024 + 1024 * (j + 1) = t % 1024 + 1024 * j + 1024 by omega, o2]; simpa using vf
  · have hjt : j = t / 1024 := by
      have h : ¬ ((j : Nat) : Int) < ((t / 1024 : Nat) : Int) := of_decide_eq_false hq
      omega
    have et2 : t % 1024 + 1024 * j = t := by omega
    rw [et2] at w1 w2
    exact H p ⟨ht, w1, w2⟩

theorem Steps_ok {A : Amb} {h : Heap} {name : ByteArray} {R : Value → Heap → Prop} (hk : name.size ≤ 1099511627776) (H : R (.int .i64 (stepsN name : Int)) h) : HCalls A P f_wherryref11_Steps #[.string name] h R := by
  refine ok_wherryref11_Steps ?_
  unfold F_wherryref11_Steps
  refine rHash_ok hk ⟨_, _, rfl, ?_⟩
  have g1 := hash1_lt name
  have g2 := hash2_lt name
  have g3 : hash2 name / 128 ≤ hash2 name := Nat.div_le_self _ _
  have ht := stepsN_lt name
  have et : IntKind.wrap .i64 ((bXor .u32 (hash1 name : Int) (IntKind.wrap .u32 ((hash2 name : Int).tdiv (128 : Int)))).tmod (4096 : Int)) = ((stepsN name : Nat) : Int) := by
    rw [show ((hash2 name : Nat) : Int).tdiv (128 : Int) = ((hash2 name / 128 : Nat) : Int) from (Int.ofNat_tdiv _ 128).symm, wrap_u32, Nat.mod_eq_of_lt (by omega), xor_u32 g1 (by omega),
      show ((hash1 name ^^^ (hash2 name / 128) : Nat) : Int).tmod (4096 : Int) = ((stepsN name : Nat) : Int) from (Int.ofNat_tmod _ 4096).symm, wrap_nat (by omega)]
  rw [et]
  exact H

theorem at_ok {A : Amb} {h : Heap} {p : Nat × Nat} {t : Nat} {R : Value → Heap → Prop} (hp : CP p t) (H : R (.int .i64 (t : Int)) h) : HCalls A P f_ring_at #[.complex .f64 p.1 p.2] h R := by
  obtain ⟨ht, w1, w2⟩ := hp
  refine ok_ring_at ?_
  unfold F_ring_at
  refine Loop.rule (fun m x hh => ∃ (s : Nat) (q : Nat × Nat), x = (q, ((t - s : Nat) : Int), ()) ∧ hh = h ∧ m = s ∧ s ≤ t ∧ VR q.1 (px s) ∧ VR q.2 (py s)) ?_ ⟨t, p, by simp, rfl, rfl, by omega, w1, w2⟩
  rintro K m _ hh ⟨s, q, rfl, e, em, hs, u1, u2⟩ hK
  subst e
  obtain rfl : s = m := em.symm
  obtain ⟨b1, b2, b3, b4⟩ := place_le (t := s) (by omega)
  have hhead := place_head (t := s) (by omega)
  refine Join.mk fun K1 hK1 => ?_
  -- once more round, a quarter back
  have more : 1024 ≤ s → K1 (true, ()) hh := fun h1 => hK1 _ _ (PIf.yes rfl (by
    refine cmulV_ok u1 u2 vr0 vrm1 (by simp) (by simp; omega) (by simp; omega) (by simp) fun e f ve vf => ⟨(e, f), rfl, ?_⟩
    obtain ⟨o1, o2⟩ := place_on (t := s - 1024) (by omega)
    rw [show s - 1024 + 1024 = s by omega] at o1 o2
    dsimp only
    refine hK (s - 1024) _ _ (by omega) ⟨s - 1024, (e, f), ?_, rfl, rfl, by omega, ?_, ?_⟩
    · rw [wrap_i64 (by omega) (by omega), show ((t - s : Nat) : Int) + 1024 = ((t - (s - 1024) : Nat) : Int) by omega]
    · have : px s * 0 - py s * -1 = px (s - 1024) := by omega
      rw [this] at ve; exact ve
    · have : px s * -1 + py s * 0 = py (s - 1024) := by omega
      rw [this] at vf; exact vf))
  have done : s < 1024 → K1 (false, ()) hh := fun h1 => hK1 _ _ (PIf.no rfl (by
    refine imag_ok ⟨_, rfl, f2i_ok P_f64 P_int (u2.toInt (by omega)) ⟨_, rfl, ?_⟩⟩
    obtain ⟨f1, _⟩ := place_first h1
    dsimp only
    rw [f1, wrap_i64 (by omega) (by omega), show ((t - s : Nat) : Int) + (s : Int) = (t : Int) by omega]
    exact H))
  refine real_ok ⟨_, rfl, fgtr_ok ⟨_, rfl, ?_⟩⟩
  rw [u1.order vr0]
  refine PIf.intro (fun hq => ?_) (fun hq => ?_)
  · have hx : 0 < px s := by
      have : compare (px s) 0 = .gt := by simpa using hq
      exact cmp_gt.1 this
    refine imag_ok ⟨_, rfl, fgeq_ok ⟨_, rfl, ?_⟩⟩
    rw [u2.order vr0]
    by_cases hy : 0 ≤ py s
    · have e : (some (compare (py s) 0) == some Ordering.gt || some (compare (py s) 0) == some Ordering.eq) = true := by
        rcases Int.lt_or_eq_of_le hy with h1 | h1
        · rw [cmp_gt.2 h1]; rfl
        · rw [cmp_eq.2 h1.symm]; rfl
      rw [e]
      exact done (hhead.1 ⟨hx, hy⟩)
    · have e : (some (compare (py s) 0) == some Ordering.gt || some (compare (py s) 0) == some Ordering.eq) = false := by
        rw [cmp_lt'.2 (by omega)]; rfl
      rw [e]
      exact more (by rcases Nat.lt_or_ge s 1024 with h1 | h1; exact absurd (hhead.2 h1).2 (by omega); exact h1)
  · have hx : ¬ 0 < px s := by
      intro h1
      rw [cmp_gt.2 h1] at hq
      simp at hq
    exact more (by rcases Nat.lt_or_ge s 1024 with h1 | h1; exact absurd (hhead.2 h1).1 (by omega); exact h1)

theorem ge_true {x y : Int} (h : y ≤ x) : (some (compare x y) == some Ordering.gt || some (compare x y) == some Ordering.eq) = true := by
  rcases Int.lt_or_eq_of_le h with h1 | h1
  · rw [cmp_gt.2 h1]; rfl
  · rw [cmp_eq.2 h1.symm]; rfl
theorem le_true {x y : Int} (h : x ≤ y) : (some (compare x y) == some Ordering.lt || some (compare x y) == some Ordering.eq) = true := by
  rcases Int.lt_or_eq_of_le h with h1 | h1
  · rw [cmp_lt'.2 h1]; rfl
  · rw [cmp_eq.2 h1]; rfl
theorem ne_false {x : Int} : (some (compare x x) != some Ordering.eq) = false := by rw [cmp_eq.2 rfl]; rfl

theorem Right_ok {A : Amb} {h : Heap} {p : Nat × Nat} {t : Nat} {R : Value → Heap → Prop} (hp : CP p t) (H : R (.bool true) h) : HCalls A P f_ring_Right #[.complex .f64 p.1 p.2] h R := by
  obtain ⟨ht, w1, w2⟩ := hp
  obtain ⟨b1, b2, b3, b4⟩ := place_le ht
  have habs := place_abs ht
  refine ok_ring_Right ?_
  unfold F_ring_Right
  refine real_ok ⟨_, rfl, imag_ok ⟨_, rfl, Join.mk fun K hK => ?_⟩⟩
  have key : K (false, ()) h := hK _ _ (PIf.no rfl (by
    refine max_ok w1 w1.neg fun r1 v1 => ⟨_, rfl, max_ok w2 w2.neg fun r2 v2 => ⟨_, rfl, ?_⟩⟩
    obtain ⟨r3, h3, v3⟩ := v1.add v2 (by omega)
    refine fadd_ok h3 ⟨_, rfl, feql_ok ⟨_, rfl, ?_⟩⟩
    rw [v3.order vr1024, habs, cmp_eq.2 rfl]
    exact H))
  have i1 := w1.toInt (by omega)
  have i2 := w2.toInt (by omega)
  have z1 := vr_int (n := px t) (by omega)
  have z2 := vr_int (n := py t) (by omega)
  refine fgeq_ok ⟨_, rfl, ?_⟩
  rw [w1.order vrm1024, ge_true b1]
  refine PIf.yes rfl (fleq_ok ⟨_, rfl, ?_⟩)
  rw [w1.order vr1024, le_true b2]
  refine PIf.yes rfl (fgeq_ok ⟨_, rfl, ?_⟩)
  rw [w2.order vrm1024, ge_true b3]
  refine PIf.yes rfl (fleq_ok ⟨_, rfl, ?_⟩)
  rw [w2.order vr1024, le_true b4]
  refine PIf.no rfl (f2i_ok P_f64 P_int i1 ⟨_, rfl, i2f_ok P_int P_f64 ⟨_, rfl, fneq_ok ⟨_, rfl, ?_⟩⟩⟩)
  rw [w1.order z1, ne_false]
  refine PIf.no rfl (f2i_ok P_f64 P_int i2 ⟨_, rfl, i2f_ok P_int P_f64 ⟨_, rfl, fneq_ok ⟨_, rfl, ?_⟩⟩⟩)
  rw [w2.order z2, ne_false]
  exact key

/-- a half is no place -/
theorem Right_half {A : Amb} {h : Heap} {R : Value → Heap → Prop} (H : R (.bool false) h) : HCalls A P f_ring_Right #[.complex .f64 4602678819172646912 0] h R := by
  refine ok_ring_Right (p := (4602678819172646912, 0)) ?_
  unfold F_ring_Right
  refine real_ok ⟨_, rfl, imag_ok ⟨_, rfl, Join.mk fun K hK => ?_⟩⟩
  have key : K (true, ()) h := hK _ _ (PIf.yes rfl H)
  have o1 : fD.order 4602678819172646912 13875590451928498176 = some .gt := by kernel_rfl
  have o2 : fD.order 4602678819172646912 4652218415073722368 = some .lt := by kernel_rfl
  have i1 : floatToIntVal .f64 4602678819172646912 .i64 = some 0 := by kernel_rfl
  have z1 : floatOfInt .f64 0 = 0 := by kernel_rfl
  have o3 : fD.order 4602678819172646912 0 = some .gt := by kernel_rfl
  refine fgeq_ok ⟨_, rfl, ?_⟩
  rw [o1]
  refine PIf.yes rfl (fleq_ok ⟨_, rfl, ?_⟩)
  rw [o2]
  refine PIf.yes rfl (fgeq_ok ⟨_, rfl, ?_⟩)
  rw [vr0.order vrm1024, ge_true (by decide)]
  refine PIf.yes rfl (fleq_ok ⟨_, rfl, ?_⟩)
  rw [vr0.order vr1024, le_true (by decide)]
  refine PIf.no rfl (f2i_ok P_f64 P_int i1 ⟨_, rfl, i2f_ok P_int P_f64 ⟨_, rfl, fneq_ok ⟨_, rfl, ?_⟩⟩⟩)
  rw [z1, o3]
  exact PIf.yes rfl key

theorem Turn_ok {A : Amb} {h : Heap} {p q : Nat × Nat} {s t : Nat} {R : Value → Heap → Prop} (hp : CP p s) (hq : CP q t) (H : R (.int .i64 (turnN s t : Int)) h) : HCalls A P f_ring_Turn #[.complex .f64 p.1 p.2, .complex .f64 q.1 q.2] h R := by
  refine ok_ring_Turn ?_
  unfold F_ring_Turn
  refine Join.mk fun K hK => ?_
  refine Right_ok hp ⟨_, rfl, PIf.no rfl (Right_ok hq ⟨_, rfl, hK _ _ (PIf.no rfl ?_)⟩)⟩
  refine at_ok hq ⟨_, rfl, at_ok hp ⟨_, rfl, ?_⟩⟩
  have h1 := hp.1
  have h2 := hq.1
  have e : (IntKind.wrap .i64 ((IntKind.wrap .i64 ((t : Int) - (s : Int))) + (4096 : Int))).tmod (4096 : Int) = ((turnN s t : Nat) : Int) := by
    rw [wrap_i64 (n := (t : Int) - (s : Int)) (by omega) (by omega), wrap_i64 (by omega) (by omega), show (t : Int) - (s : Int) + 4096 = ((t + 4096 - s : Nat) : Int) by omega]
    exact (Int.ofNat_tmod _ 4096).symm
  rw [e]
  exact H
end Go.Lf.G
