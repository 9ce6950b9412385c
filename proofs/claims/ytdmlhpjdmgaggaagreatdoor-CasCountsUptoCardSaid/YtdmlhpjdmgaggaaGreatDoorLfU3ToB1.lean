/-
 LIFT, part U3: an owned slice's element is written; more words.
-/
import Derived.Test.YtdmlhpjdmgaggaaGreatDoorLfU1ToU2
import Derived.Test.YtdmlhpjdmgaggaaGreatDoorLfG1
set_option linter.unusedVariables false
set_option linter.unusedSimpArgs false
set_option maxRecDepth 100000
namespace Go.Lf
open Go
theorem ABH {α : Type} {E : Enc α} {x x' : α} {j : Nat} {v : Value} (hx : E.enc x' = (E.enc x).set j v) (hj : j < E.w) : ∀ {l : List α} {i : Nat}, l[i]? = some x → (l.set i x').flatMap E.enc = (l.flatMap E.enc).set (i * E.w + j) v
 | [], _, h => by simp at h
 | y :: l, 0, h => by
  simp at h; subst h
  rw [List.set_cons_zero, List.flatMap_cons, List.flatMap_cons, hx, Nat.zero_mul, Nat.zero_add, List.set_append_left _ _ (by rw [E.len]; exact hj)]
 | y :: l, i + 1, h => by
  rw [List.set_cons_succ, List.flatMap_cons, List.flatMap_cons, ABH hx hj (l := l) (i := i) (by simpa using h), List.set_append_right _ _ (by rw [E.len, Nat.add_mul]; omega), E.len]
  rw [show (i + 1) * E.w + j - E.w = i * E.w + j by rw [Nat.add_mul]; omega]
theorem Own.store {α : Type} {E : Enc α} {T : TypeId} {h : Heap} {s : Sl} {l : List α} {i j : Nat} {x x' : α} {v : Value} {K : Heap → Prop} (o : Own E T h s l) (hi : l[i]? = some x) (hx : E.enc x' = (E.enc x).set j v) (hj : j < E.w)
  (H : ∀ h', Own E T h' s (l.set i x') → Mod (fun c => s.blk = some c) h h' → h'.size = h.size → K h') : ∀ a, s.p = some a → Store h ((a.add (i * E.w)).add j) v K := by
 intro a ha
 rcases o.row with ⟨rfl, rfl⟩ | ⟨g, cur, hp, hg, hc, hm, hs, ht⟩
 ·simp at hi
 ·rw [hp] at ha; cases ha
  rw [add_add, Bq, Nat.zero_add]
  have hil : i < l.length := (List.getElem?_eq_some_iff.1 hi).1
  have hlt : i * E.w + j < s.len * E.w := by
   have : (i + 1) * E.w ≤ s.len * E.w := Nat.mul_le_mul_right _ (by rw [o.len]; exact hil)
   rw [Nat.add_mul] at this; omega
  have hcap : s.len * E.w ≤ cur.size := by rw [hs]; exact Nat.mul_le_mul_right _ hc
  refine Store.mk hg (by omega) fun h' hg' m hsz => H h' ⟨by rw [List.length_set]; exact o.len, .inr ⟨g, _, hp, hg', hc, hm, by simpa using hs, ?_⟩⟩ (m.weak fun c _ hcc => by simp [Sl.blk, hp, hcc]) hsz
  rw [Array.toList_setIfInBounds, List.take_set, ht, ABH hx hj hi]
theorem Own.ne {α : Type} {E : Enc α} {T T' : TypeId} {h : Heap} {s : Sl} {l : List α} (o : Own E T h s l) {b : Nat} {cs : Array Value} {fr : Nat × Nat} (hb : h[b]? = some (.cells cs T' fr)) (hT : T ≠ T') : s.blk ≠ some b := by
 intro e
 rcases o.row with ⟨rfl, _⟩ | ⟨g, cur, hp, hg, _⟩
 ·simp [Sl.blk] at e
 ·simp [Sl.blk, hp] at e; subst e
  rw [hg] at hb
  injection hb with hb
  injection hb with _ h2 _
  exact hT h2
theorem max_i64 : IntKind.max .i64 = 9223372036854775807 := by simp [IntKind.max, IntKind.bits, IntKind.signed]
def cntF (k : Nat) (l : List Fi) : Nat := l.foldl Kq k
theorem VT (keep : List Int) : ∀ (l1 l2 : List Fi) (k : Nat), CW keep k (l1 ++ l2) = CW keep k l1 ++ CW keep (cntF k l1) l2
 | [], _, _ => rfl
 | x :: l1, l2, k => by
  show Xl keep k x ++ CW keep (Kq k x) (l1 ++ l2) = _
  rw [VT keep l1 l2, ← List.append_assoc]; rfl
theorem WB {keep : List Int} : ∀ {l : List Fi} {k : Nat}, (CW keep k l).length ≤ l.length
 | [], _ => by simp [CW]
 | x :: l, k => by
  have := WB (keep := keep) (l := l) (k := Kq k x)
  unfold CW Xl
  split <;> simp <;> omega
theorem ABh : ∀ (n : Nat) (l : List Fi), wtF (l.take n) ≤ wtF l
 | 0, l => by simp [wtF]
 | n + 1, [] => by simp
 | n + 1, x :: l => by rw [List.take_succ_cons, FB, FB]; have := ABh n l; omega
theorem Mod.weak' {S S' : Nat → Prop} {h h1 : Heap} (a : Mod S h h1) (hs : ∀ b, b < h.size → ¬ S b) : Mod S' h h1 := a.weak fun b hb h => (hs b hb h).elim
theorem AFS (k : Nat) (l : List Fi) (x : Fi) : cntF k (l ++ [x]) = Kq (cntF k l) x := by simp [cntF]
theorem AEN : ∀ (l : List Fi) (k : Nat), cntF k l ≤ k + l.length
 | [], k => by simp [cntF]
 | x :: l, k => by
  show cntF (Kq k x) l ≤ _
  have := AEN l (Kq k x)
  have : Kq k x ≤ k + 1 := by unfold Kq; split <;> omega
  rw [List.length_cons]; omega
theorem ABz (keep : List Int) (l : List Fi) (x : Fi) : CW keep 0 (l ++ [x]) = CW keep 0 l ++ Xl keep (cntF 0 l) x := by
 rw [VT]; simp [CW]
end Go.Lf

/-
 LIFT, part U4: a new variable whose cells are stored one by one.
-/
set_option maxRecDepth 100000
namespace Go.Lf
open Go
theorem New.copy2 {h : Heap} {T : TypeId} {z0 z1 v0 v1 : Value} {K : Nat → Heap → Prop}
  (H : ∀ b h', b = h.size → h'[b]? = some (.cells #[v0, v1] T (0, 0)) → Ext h h' → h'.size = h.size + 1 → K b h') :
  New h (.cells #[z0, z1] T) fun b h1 => Store h1 ⟨b, 0, none⟩ v0 fun h2 => Store h2 ((⟨b, 0, none⟩ : Addr).add 1) v1 fun h3 => K b h3 := by
 refine New.mk fun h1 _ hb1 x1 hs1 => ?_
 simp only [Bq, Nat.zero_add]
 refine Store.mk hb1 (by simp) fun h2 hb2 m2 hs2 => ?_
 refine Store.mk hb2 (by simp) fun h3 hb3 m3 hs3 => ?_
 refine H _ _ rfl (by simpa using hb3) ?_ (by omega)
 have m := (m2.trans m3)
 exact ⟨by omega, fun b hlt _ => (m.get b (by omega) (by omega)).trans (x1.get b hlt (by simp))⟩
theorem New.copy7 {h : Heap} {T : TypeId} {z0 z1 z2 z3 z4 z5 z6 v0 v1 v2 v3 v4 v5 v6 : Value} {K : Nat → Heap → Prop}
  (H : ∀ b h', b = h.size → h'[b]? = some (.cells #[v0, v1, v2, v3, v4, v5, v6] T (0, 0)) → Ext h h' → h'.size = h.size + 1 → K b h') :
  New h (.cells #[z0, z1, z2, z3, z4, z5, z6] T) fun b h1 => Store h1 ⟨b, 0, none⟩ v0 fun h2 => Store h2 ((⟨b, 0, none⟩ : Addr).add 1) v1 fun h3 => Store h3 ((⟨b, 0, none⟩ : Addr).add 2) v2 fun h4 => Store h4 ((⟨b, 0, none⟩ : Addr).add 3) v3 fun h5 => Store h5 ((⟨b, 0, none⟩ : Addr).add 4) v4 fun h6 => Store h6 ((⟨b, 0, none⟩ : Addr).add 5) v5 fun h7 => Store h7 ((⟨b, 0, none⟩ : Addr).add 6) v6 fun h8 => K b h8 := by
 refine New.mk fun h1 _ hb1 x1 hs1 => ?_
 simp only [Bq, Nat.zero_add]
 refine Store.mk hb1 (by simp) fun h2 hb2 m2 hs2 => ?_
 refine Store.mk hb2 (by simp) fun h3 hb3 m3 hs3 => ?_
 refine Store.mk hb3 (by simp) fun h4 hb4 m4 hs4 => ?_
 refine Store.mk hb4 (by simp) fun h5 hb5 m5 hs5 => ?_
 refine Store.mk hb5 (by simp) fun h6 hb6 m6 hs6 => ?_
 refine Store.mk hb6 (by simp) fun h7 hb7 m7 hs7 => ?_
 refine Store.mk hb7 (by simp) fun h8 hb8 m8 hs8 => ?_
 refine H _ _ rfl (by simpa using hb8) ?_ (by omega)
 have m := ((((((m2.trans m3).trans m4).trans m5).trans m6).trans m7).trans m8)
 exact ⟨by omega, fun b hlt _ => (m.get b (by omega) (by omega)).trans (x1.get b hlt (by simp))⟩
end Go.Lf

/-
 Contracts: numbers and texts as bytes (chapter 1), and what reads them.
-/
set_option maxRecDepth 100000
set_option linter.unusedVariables false
set_option linter.unusedSimpArgs false
namespace Go.Lf.G
open Go
theorem KY : P.underlying Ae = some .string := by kernel_rfl
theorem AJ1 : P.underlying Ct = some (.int .u8) := by kernel_rfl
theorem ADf : P.underlying Cm = some (.slice Ct) := by kernel_rfl
theorem AHm : Qw P Cm Ct JB.w 1 = true := by kernel_rfl
theorem Fy {A : Amb} {h : Heap} {n : Nat} {R : Value → Heap → Prop} (hn : n < 18446744073709551616) (H : ∀ h', Ext h h' → R (.string (AY (Bv n))) h') : AA A P Bo #[.int .u64 (n : Int)] h R := by
 refine ABO ?_
 unfold QH
 have hl10 := Af hn
 refine Loop.rule (fun m x hh => ∃ (k : Nat) (s : Sl) (d : List UInt8), x = ((k : Int), s, ()) ∧ Own JB Ct hh s d ∧ Ext h hh ∧ (∀ b, s.blk = some b → h.size ≤ b) ∧ Bv n = d ++ Bv k ∧ m = k) ?_
  ⟨n, ⟨none, 0, 0⟩, [], rfl, Own.nil, Mod.refl, fun b hb => by simp [Sl.blk] at hb, rfl, rfl⟩
 rintro K m _ hh ⟨k, s, d, rfl, o, x, hs, e, hm⟩ hK
 have hd : d.length ≤ 10 := by rw [e] at hl10; simp at hl10; omega
 refine PIf.intro (fun hq => ?_) (fun hq => ?_)
 ·have hk : ¬ k < 128 := by simp at hq; omega
  refine New.append1 (E := JB) (x := Gq (k % 128 + 128)) (s := s) (l := d) (by dsimp only [JB]; rw [AGI]) AHm o (by simp; omega) (by simp [maxLen]; omega) fun s' h' o' m' hb' hn' => ?_
  refine hK (k / 128) _ _ (by omega) ⟨k / 128, s', d ++ [Gq (k % 128 + 128)], ?_, o', x.more m' hs, fun b hb => ?_, ?_, rfl⟩
  ·dsimp only
   rw [MF k 7]
  ·rcases hb' b hb with h1 | h1
   ·exact hs b h1
   ·have := x.size; omega
  ·rw [e, R6 hk]; simp
 ·have hk : k < 128 := by simp at hq; omega
  refine New.append1 (E := JB) (x := Gq k) (s := s) (l := d) (by dsimp only [JB]; rw [HZ (show k < 256 by omega), wrap_u8, Nat.mod_eq_of_lt (show k < 256 by omega)]) AHm o (by simp; omega) (by simp [maxLen]; omega) fun s' h' o' m' hb' hn' => ?_
  refine PE ADf AJ1 KY o'.view ⟨_, rfl, ?_⟩
  have e2 : d ++ [Gq k] = Bv n := by rw [e, Iq hk]
  rw [e2]
  exact H _ (x.more m' hs)
theorem AG0 (n : Nat) : (if (10 : Int) < (n : Int) then (10 : Int) else (n : Int)) = ((min n 10 : Nat) : Int) := by split <;> omega
theorem AE0 {A : Amb} {h : Heap} {s : ByteArray} {R : Value → Heap → Prop} (hs : s.size ≤ 8796093022208)
  (H0 : JO 0 0 s.data.toList = none → R (.tuple #[.int .u64 0, .string ⟨#[]⟩, .bool false]) h)
  (H1 : ∀ n t, JO 0 0 s.data.toList = some (n, t) → R (.tuple #[.int .u64 (n : Int), .string (AY t), .bool true]) h) : AA A P KQ #[.string s] h R := by
 refine ACa ?_
 unfold Qs
 have hls : s.data.toList.length = s.size := by rw [Array.length_toList]; rfl
 refine Loop.rule (fun m x hh => ∃ (i a : Nat), x = ((a : Int), (i : Int), ()) ∧ hh = h ∧ i ≤ s.size ∧ i ≤ 10 ∧ a < 128 ^ i ∧ JO 0 0 s.data.toList = JO i a (s.data.toList.drop i) ∧ m = 10 - i) ?_
  ⟨0, 0, rfl, rfl, by omega, by omega, by simp, rfl, rfl⟩
 rintro K m _ hh ⟨i, a, rfl, e, hi, h10, ha, hg, hm⟩ hK
 subst hh
 dsimp only
 rw [AG0]
 refine PIf.intro (fun hq => ?_) (fun hq => ?_)
 ·have hi1 : i < s.size ∧ i < 10 := by simp at hq; omega
  have hil : i < s.data.toList.length := by omega
  refine ⟨⟨by omega, by omega⟩, ?_⟩
  obtain ⟨c, hc⟩ : ∃ c, s.data.toList[i]? = some c := ⟨_, List.getElem?_eq_getElem hil⟩
  have hdrop : s.data.toList.drop i = c :: s.data.toList.drop (i + 1) := by
   rw [List.drop_eq_getElem_cons hil]
   rw [List.getElem?_eq_getElem hil] at hc
   rw [Option.some.inj hc]
  have hc256 : c.toNat < 256 := c.toNat_lt
  rw [NV hc]
  have hbad : ((i = 9 ∧ 1 < c.toNat) ∨ (0 < i ∧ c.toNat = 0)) → JO 0 0 s.data.toList = none := fun hb => by
   rw [hg, hdrop, JO, if_pos (.inr hb)]
  have hgo : ¬ ((i = 9 ∧ 1 < c.toNat) ∨ (0 < i ∧ c.toNat = 0)) → JO 0 0 s.data.toList = if c.toNat < 128 then some (a + c.toNat * 128 ^ i, s.data.toList.drop (i + 1)) else JO (i + 1) (a + c.toNat % 128 * 128 ^ i) (s.data.toList.drop (i + 1)) := fun hb => by
   rw [hg, hdrop, JO, if_neg (fun h => h.elim (by omega) hb)]
  refine Join.mk fun K1 hK1 => ?_
  have key : ∀ (b : Bool), (b = true ↔ ((i = 9 ∧ 1 < c.toNat) ∨ (0 < i ∧ c.toNat = 0))) → K1 (b, ()) h := fun b hb => by
   refine hK1 _ _ ?_
   refine PIf.intro (fun hb1 => H0 (hbad (hb.1 hb1))) (fun hb0 => ?_)
   have hnb : ¬ ((i = 9 ∧ 1 < c.toNat) ∨ (0 < i ∧ c.toNat = 0)) := fun h => by rw [hb.2 h] at hb0; cases hb0
   have hg2 := hgo hnb
   have e7 : IntKind.wrap .i64 ((7 : Int) * (i : Int)) = ((7 * i : Nat) : Int) := by rw [show (7 : Int) * (i : Int) = ((7 * i : Nat) : Int) by simp]; exact FJ (by omega)
   have e127 : Ns .u8 (c.toNat : Int) (127 : Int) = ((c.toNat % 128 : Nat) : Int) := by
    have := AGR (a := c.toNat) (b := 127) hc256 (by decide)
    rw [AJx _ hc256] at this
    exact this
   have ew : IntKind.wrap .u64 ((c.toNat % 128 : Nat) : Int) = ((c.toNat % 128 : Nat) : Int) := by rw [wrap_u64, Nat.mod_eq_of_lt (by omega)]
   rw [e7, e127, ew, AJ8 (by omega) (Nat.mod_lt _ (by decide)), AIN (by omega) ha (Nat.mod_lt _ (by decide)), AQ (by omega)]
   have h9 := Il (show i ≤ 9 by omega)
   have e9 : (128 : Nat) ^ 9 = 9223372036854775808 := by decide
   have hmod : c.toNat % 128 * 128 ^ i % 18446744073709551616 = c.toNat % 128 * 128 ^ i := by
    refine Nat.mod_eq_of_lt ?_
    by_cases hi9 : i = 9
    ·subst hi9
     have : c.toNat ≤ 1 := by omega
     rw [e9]; omega
    ·have h8 := Il (show i ≤ 8 by omega)
     have e8 : (128 : Nat) ^ 8 = 72057594037927936 := by decide
     have : c.toNat % 128 * 128 ^ i ≤ 127 * 128 ^ i := Nat.mul_le_mul_right _ (by omega)
     omega
   rw [hmod]
   refine ⟨by omega, ?_⟩
   refine PIf.intro (fun hq => ?_) (fun hq => ?_)
   ·have hlow : c.toNat < 128 := by simp at hq; omega
    rw [if_pos hlow] at hg2
    refine ⟨⟨by omega, by omega⟩, ?_⟩
    have := H1 _ _ hg2
    rw [Nat.mod_eq_of_lt hlow]
    have e : s.extract ((i + 1 : Nat) : Int).toNat s.size = AY (s.data.toList.drop (i + 1)) := Xe _ _
    rw [e]
    exact this
   ·have hlow : ¬ c.toNat < 128 := by simp at hq; omega
    rw [if_neg hlow] at hg2
    refine hK (10 - (i + 1)) _ _ (by omega) ⟨i + 1, a + c.toNat % 128 * 128 ^ i, rfl, rfl, by omega, by omega, ?_, hg2, rfl⟩
    have : (c.toNat % 128 + 1) * 128 ^ i ≤ 128 * 128 ^ i := Nat.mul_le_mul_right _ (by omega)
    rw [Nat.add_mul] at this
    rw [Nat.pow_succ, Nat.mul_comm (128 ^ i)]
    omega
  refine PIf.intro (fun hq => ?_) (fun hq => ?_)
  ·have hi9 : i = 9 := by simp at hq; omega
   refine PIf.intro (fun hq2 => key _ ⟨fun _ => .inl ⟨hi9, by simp at hq2; omega⟩, fun _ => rfl⟩) (fun hq2 => ?_)
   refine PIf.intro (fun hq3 => key _ ⟨fun hz => .inr ⟨by omega, by simp at hz; omega⟩, fun hz => by simp at hq2 ⊢; omega⟩) (fun hq3 => ?_)
   simp at hq3; omega
  ·have hi9 : i ≠ 9 := by simp at hq; omega
   refine PIf.intro (fun hq3 => key _ ⟨fun hz => .inr ⟨by simp at hq3; omega, by simp at hz; omega⟩, fun hz => (by simp; omega)⟩) (fun hq3 => key _ ⟨(fun hz => (by cases hz)), fun hz => (by simp at hq3; omega)⟩)
 ·have hi1 : s.size = i ∨ i = 10 := by simp at hq; omega
  refine H0 ?_
  rw [hg]
  rcases hi1 with h1 | h1
  ·rw [List.drop_of_length_le (by omega)]; rfl
  ·cases hd : s.data.toList.drop i with
   | nil => rfl
   | cons c t => rw [JO, if_pos (.inl (by omega))]
end Go.Lf.G

/-
 Contracts: readers of bytes (chapter 1), sums and frames (chapter 2).
-/
set_option maxRecDepth 100000
set_option linter.unusedVariables false
set_option linter.unusedSimpArgs false
namespace Go.Lf.G
open Go
theorem atI {a : Addr} {K : Addr → Prop} (h : K a) : At (some a) K := h
theorem Store.mk1 {h : Heap} {b j : Nat} {v : Value} {cs : Array Value} {T : TypeId} {K : Heap → Prop} (hb : h[b]? = some (.cells cs T (0, 0))) (hj : j < cs.size)
  (H : ∀ h', h'[b]? = some (.cells (cs.setIfInBounds j v) T (0, 0)) → Mod (· = b) h h' → h'.size = h.size → K h') : Store h ((⟨b, 0, none⟩ : Addr).add j) v K := by
 rw [Bq, Nat.zero_add]; exact Store.mk hb hj H
theorem max_i64 : IntKind.max .i64 = 9223372036854775807 := by simp [IntKind.max, IntKind.bits, IntKind.signed]
theorem wrap_i64 {n : Int} (h1 : -9223372036854775808 ≤ n) (h2 : n ≤ 9223372036854775807) : IntKind.wrap .i64 n = n := by
 simp only [IntKind.wrap, IntKind.bits, IntKind.signed]
 simp
 omega
theorem Co {n : Nat} (h : n < 18446744073709551616) : IntKind.wrap .u64 (n : Int) = (n : Int) := by rw [wrap_u64, Nat.mod_eq_of_lt h]
abbrev BA (b : Nat) : Value := .pointer (some ⟨b, 0, none⟩)
def JE (h : Heap) (b : Nat) (r : Rd) : Prop := h[b]? = some (.cells #[.string (AY r.rest), .bool r.bad] Px (0, 0))
theorem ABL : AY [] = ⟨#[]⟩ := rfl
theorem YZ (l : List UInt8) (n : Nat) : (AY l).extract 0 n = AY (l.take n) := by rw [AGc, DX]
theorem Zb (l : List UInt8) (n : Nat) : (AY l).extract n (AY l).size = AY (l.drop n) := by rw [Xe, DX]
theorem AGT (l : List UInt8) (i j : Nat) : (AY l).extract i j = AY ((l.take j).drop i) := by rw [ext_list, DX]
theorem CK (a b : List UInt8) : AY a ++ AY b = AY (a ++ b) := by
 apply ByteArray.ext
 simp [AY, ByteArray.data_append]
theorem AC0 {A : Amb} {h : Heap} {l : List UInt8} {R : Value → Heap → Prop} (hl : l.length ≤ 1099511627776) (H : ∀ h', Ext h h' → R (.string (AY (CY l))) h') : AA A P Dp #[.string (AY l)] h R := by
 refine AA4 ?_
 unfold OL
 rw [AV, Co (by omega)]
 have := Af (n := l.length) (by omega)
 refine Fy (by omega) fun h1 x1 => ⟨_, rfl, ⟨by rw [AV, max_i64]; omega, ?_⟩⟩
 rw [CK]
 exact H _ x1
theorem Q9 {A : Amb} {h : Heap} {l : List UInt8} {R : Value → Heap → Prop} (H : ∀ h', JE h' h.size ⟨l, false⟩ → Ext h h' → R (BA h.size) h') : AA A P GL #[.string (AY l)] h R := by
 refine AAc ?_
 unfold OH
 exact New.mk fun h1 _ hb x _ => H h1 hb x
theorem AEZ {A : Amb} {h : Heap} {b : Nat} {r : Rd} {R : Value → Heap → Prop} (hb : JE h b r) (hl : r.rest.length ≤ 1099511627776)
  (H : ∀ h', JE h' b (Gj r).2 → Mod (· = b) h h' → R (.int .u64 ((Gj r).1 : Int)) h') : AA A P EL #[BA b] h R := by
 refine Qg ?_
 unfold IJ
 refine Join.mk fun K hK => PIf.no rfl (atI (AZ.mk (AB hb rfl) (hK _ _ ?_)))
 refine PIf.intro (fun hq => ?_) (fun hq => ?_)
 ·have := H h
  rw [AGl hq] at this
  exact this hb Mod.refl
 ·refine atI (AC.mk (AJ hb rfl) ?_)
  have hq : r.bad = false := hq
  refine AE0 (by rw [AV]; exact Nat.le_trans hl (by decide)) (fun hn => ⟨_, _, _, rfl, ?_⟩) (fun n t hn => ⟨_, _, _, rfl, ?_⟩)
  all_goals
   rw [DX] at hn
   refine atI (Store.mk hb (by simp) fun h1 hb1 m1 hs1 => atI (Store.mk1 hb1 (by simp) fun h2 hb2 m2 hs2 => ?_))
   have := H h2
   simp only [Gj, hq, hn] at this
   exact this hb2 (m1.trans m2)
theorem AFu {m : Nat} (h : m ≤ 9223372036854775807) : IntKind.wrap .u64 (m : Int) = (m : Int) := Co (by omega)
theorem I4 {A : Amb} {h : Heap} {b : Nat} {r : Rd} {most : Nat} {R : Value → Heap → Prop} (hb : JE h b r) (hl : r.rest.length ≤ 1099511627776) (hm : most ≤ 9223372036854775807)
  (H : ∀ h', JE h' b (ABX most r).2 → Mod (· = b) h h' → R (.int .i64 ((ABX most r).1 : Int)) h') : AA A P BC #[BA b, .int .i64 (most : Int)] h R := by
 refine Qi ?_
 unfold IB
 refine AEZ hb hl fun h1 hb1 m1 => ⟨_, rfl, ?_⟩
 refine Join.mk fun K hK => PIf.no rfl (atI (AZ.mk (AB hb1 rfl) (hK _ _ ?_)))
 refine PIf.intro (fun hq => ?_) (fun hq => ?_)
 ·have := H h1
  have hq : (Gj r).2.bad = true := hq
  simp only [ABX, hq, if_true] at this
  exact this hb1 m1
 ·have hq : (Gj r).2.bad = false := hq
  refine Join.mk fun K1 hK1 => PIf.no (by simp) (hK1 _ _ ?_)
  rw [AFu hm]
  refine PIf.intro (fun hq2 => ?_) (fun hq2 => ?_)
  ·refine atI (Store.mk hb1 (by simp) fun h2 hb2 m2 hs2 => atI (Store.mk1 hb2 (by simp) fun h3 hb3 m3 hs3 => ?_))
   have := H h3
   simp only [ABX, hq] at this
   rw [if_neg (by simp), if_pos (by simp at hq2; omega)] at this
   exact this hb3 ((m1.trans m2).trans m3)
  ·have := H h1
   simp at hq2
   simp only [ABX, hq] at this
   rw [if_neg (by simp), if_neg (by omega)] at this
   rw [FJ (by omega)]
   exact this hb1 m1
theorem V5 {A : Amb} {h : Heap} {b n : Nat} {r : Rd} {R : Value → Heap → Prop} (hb : JE h b r)
  (H : ∀ h', JE h' b (Nb n r).2 → Mod (· = b) h h' → R (.string (AY (Nb n r).1)) h') : AA A P Cz #[BA b, .int .i64 (n : Int)] h R := by
 refine PZ ?_
 unfold G8
 refine Join.mk fun K hK => PIf.no rfl (atI (AZ.mk (AB hb rfl) (hK _ _ ?_)))
 refine PIf.intro (fun hq => ?_) (fun hq => ?_)
 ·have := H h
  have hq : r.bad = true := hq
  simp only [Nb, hq, if_true] at this
  exact this hb Mod.refl
 ·have hq : r.bad = false := hq
  refine Join.mk fun K1 hK1 => PIf.no (by simp) (atI (AC.mk (AJ hb rfl) (hK1 _ _ ?_)))
  rw [AV]
  refine PIf.intro (fun hq2 => ?_) (fun hq2 => ?_)
  ·refine atI (Store.mk hb (by simp) fun h2 hb2 m2 hs2 => atI (Store.mk1 hb2 (by simp) fun h3 hb3 m3 hs3 => ?_))
   have := H h3
   simp only [Nb, hq] at this
   rw [if_neg (by simp), if_pos (by simp at hq2; omega)] at this
   exact this hb3 (m2.trans m3)
  ·simp at hq2
   refine atI (AC.mk (AJ hb rfl) ⟨⟨by omega, by rw [AV]; omega⟩, atI (AC.mk (AJ hb rfl) ⟨⟨by omega, by rw [AV]; omega⟩, atI (Store.mk hb (by simp) fun h2 hb2 m2 hs2 => ?_)⟩)⟩)
   have := H h2
   simp only [Nb, hq] at this
   rw [if_neg (by simp), if_neg (by omega)] at this
   simp only [Int.toNat_natCast, YZ, Zb] at hb2 ⊢
   rw [hq] at hb2
   exact this hb2 m2
theorem PH {A : Amb} {h : Heap} {b : Nat} {r : Rd} {R : Value → Heap → Prop} (hb : JE h b r) (hl : r.rest.length < 1099511627776)
  (H : ∀ h', JE h' b (Xd r).2 → Mod (· = b) h h' → R (.string (AY (Xd r).1)) h') : AA A P Cb #[BA b] h R := by
 refine Pp ?_
 unfold G5
 refine AEZ hb (by omega) fun h1 hb1 m1 => ⟨_, rfl, ?_⟩
 have hln := AHD r
 refine Join.mk fun K hK => PIf.no rfl (atI (AZ.mk (AB hb1 rfl) (hK _ _ ?_)))
 refine PIf.intro (fun hq => ?_) (fun hq => ?_)
 ·have := H h1
  have hq : (Gj r).2.bad = true := hq
  simp only [Xd, hq, if_true] at this
  exact this hb1 m1
 ·have hq : (Gj r).2.bad = false := hq
  have e : IntKind.wrap .i64 (if (1099511627776 : Int) < ((Gj r).1 : Int) then 1099511627776 else ((Gj r).1 : Int)) = ((min (Gj r).1 1099511627776 : Nat) : Int) := by
   rw [wrap_i64 (by split <;> omega) (by split <;> omega)]
   split <;> omega
  rw [e]
  refine V5 hb1 fun h2 hb2 m2 => ⟨_, rfl, ?_⟩
  have := H h2
  simp only [Xd, hq] at this
  rw [if_neg (by simp)] at this
  have e2 : Nb (min (Gj r).1 1099511627776) (Gj r).2 = Nb (Gj r).1 (Gj r).2 := by
   by_cases hle : (Gj r).1 ≤ 1099511627776
   ·rw [Nat.min_eq_left hle]
   ·have q1 : (Gj r).2.rest.length < min (Gj r).1 1099511627776 := by omega
    have q2 : (Gj r).2.rest.length < (Gj r).1 := by omega
    simp only [Nb, hq, Bool.false_eq_true, if_false, if_pos q1, if_pos q2]
  rw [e2] at hb2 ⊢
  exact this hb2 (m1.trans m2)
theorem VB {A : Amb} {h : Heap} {b : Nat} {r : Rd} {R : Value → Heap → Prop} (hb : JE h b r) (H : R (.bool (AH2 r)) h) : AA A P Cn #[BA b] h R := by
 refine QC ?_
 unfold II
 refine PIf.yes rfl (atI (AZ.mk (AB hb rfl) ?_))
 unfold AH2 at H
 refine PIf.intro (fun hq => ?_) (fun hq => ?_)
 ·refine atI (AC.mk (AJ hb rfl) ?_)
  rw [hq] at H
  have e : sEq (AY r.rest) (⟨#[]⟩ : ByteArray) = r.rest.isEmpty := by
   rw [BO, ← ABL]
   cases hr : r.rest with
   | nil => simp
   | cons c t => simp [WG]
  rw [e]; simpa using H
 ·rw [hq] at H; exact H
theorem AHC {c : Nat} (hc : c < 4294967296) : Te .u32 ((c : Int).fdiv ((2 : Int) ^ (1 : Nat))) (Ns .u32 (3988292384 : Int) (IntKind.wrap .u32 (0 - (Ns .u32 (c : Int) (1 : Int))))) = ((XE c : Nat) : Int) := by
 have h1 : Ns .u32 (c : Int) (1 : Int) = ((c % 2 : Nat) : Int) := by
  have := AI7 (a := c) (b := 1) hc (by decide)
  rw [Nat.and_one_is_mod] at this
  exact this
 rw [MF c 1, h1]
 unfold XE
 have hd : c / 2 ^ 1 < 4294967296 := by omega
 by_cases ho : c % 2 = 1
 ·rw [if_pos ho, ho]
  have e : IntKind.wrap .u32 (0 - ((1 : Nat) : Int)) = ((4294967295 : Nat) : Int) := by decide
  have e2 : Ns .u32 (3988292384 : Int) ((4294967295 : Nat) : Int) = ((3988292384 : Nat) : Int) := by decide
  rw [e, e2, PM hd (by decide)]
 ·rw [if_neg ho, show c % 2 = 0 by omega]
  have e : IntKind.wrap .u32 (0 - ((0 : Nat) : Int)) = ((0 : Nat) : Int) := by decide
  have e2 : Ns .u32 (3988292384 : Int) ((0 : Nat) : Int) = ((0 : Nat) : Int) := by decide
  rw [e, e2, PM hd (by decide)]
  simp
theorem AIq {c : Nat} (hc : c < 4294967296) : Te .u32 (if IntKind.signed .u32 then -1 else IntKind.max .u32) (c : Int) = ((4294967295 - c : Nat) : Int) := by
 have e : (if IntKind.signed .u32 then -1 else IntKind.max .u32) = ((4294967295 : Nat) : Int) := by decide
 rw [e, PM (by decide) hc]
 congr 1
 have e1 : 4294967295 - c = 2 ^ 32 - (c + 1) := by omega
 have e2 : (4294967295 : Nat) = 2 ^ 32 - 1 := by decide
 have hc' : c < 2 ^ 32 := by omega
 rw [e1, e2]
 apply Nat.eq_of_testBit_eq
 intro i
 rw [Nat.testBit_xor, Nat.testBit_two_pow_sub_one, Nat.testBit_two_pow_sub_succ hc']
 by_cases hi : i < 32
 ·simp [hi]
 ·have : c.testBit i = false := Nat.testBit_lt_two_pow (Nat.lt_of_lt_of_le hc' (Nat.pow_le_pow_right (by decide) (by omega)))
  simp [hi, this]
theorem AEd {A : Amb} {h : Heap} {l : List UInt8} {R : Value → Heap → Prop} (hl : l.length ≤ 1099511627776) (H : R (.int .u32 (ACd l : Int)) h) : AA A P I8 #[.string (AY l)] h R := by
 refine Zh ?_
 unfold OE
 rw [AV]
 refine Loop.rule (fun m x hh => ∃ i : Nat, x = ((AA2 (l.take i) : Int), (i : Int), ()) ∧ hh = h ∧ m = l.length - i ∧ i ≤ l.length) ?_ ⟨0, rfl, rfl, rfl, by omega⟩
 rintro K m _ hh ⟨i, rfl, e, rfl, hi⟩ hK
 subst hh
 refine PIf.intro (fun hq => ?_) (fun hq => ?_)
 ·have hil : i < l.length := by simpa using hq
  obtain ⟨c, hc⟩ : ∃ c, l[i]? = some c := ⟨_, List.getElem?_eq_getElem hil⟩
  have hc256 : c.toNat < 256 := c.toNat_lt
  refine ⟨⟨by dsimp only; omega, by dsimp only; omega⟩, ?_⟩
  have hlt := AEv (l.take i)
  dsimp only
  rw [NV (c := c) (by rw [DX]; exact hc), wrap_u32, Nat.mod_eq_of_lt (show c.toNat < 4294967296 by omega), PM hlt (by omega)]
  have hx : AA2 (l.take i) ^^^ c.toNat < 4294967296 := Nat.xor_lt_two_pow (n := 32) hlt (by omega)
  refine Loop.rule (fun m x hh => ∃ k : Nat, x = ((AEs k (AA2 (l.take i) ^^^ c.toNat) : Int), (k : Int), ()) ∧ hh = h ∧ m = 8 - k ∧ k ≤ 8) ?_ ⟨0, rfl, rfl, rfl, by omega⟩
  rintro K1 m1 _ hh ⟨k, rfl, e, rfl, hk⟩ hK1
  subst hh
  refine PIf.intro (fun hq2 => ?_) (fun hq2 => ?_)
  ·have hk8 : k < 8 := by simp at hq2; omega
   dsimp only
   rw [AHC (WI hx k), AQ (by omega)]
   exact hK1 (8 - (k + 1)) _ _ (by omega) ⟨k + 1, rfl, rfl, rfl, hk8⟩
  ·have hk8 : k = 8 := by simp at hq2; omega
   subst hk8
   dsimp only
   rw [AQ (by omega)]
   refine hK (l.length - (i + 1)) _ _ (by omega) ⟨i + 1, ?_, rfl, rfl, hil⟩
   rw [List.take_add_one, hc, Option.toList_some, AFc]
   rfl
 ·have hil : i = l.length := by simp at hq; omega
  have e : l.take i = l := List.take_of_length_le (by omega)
  dsimp only
  rw [e, AIq (AEv l)]
  exact H
theorem SV (n k : Nat) : IntKind.wrap .u8 ((n : Int).fdiv ((2 : Int) ^ k)) = (((Gq (n / 2 ^ k % 256)).toNat : Nat) : Int) := by
 rw [MF, wrap_u8, HZ (Nat.mod_lt _ (by decide))]
theorem ABu {A : Amb} {h : Heap} {n : Nat} {R : Value → Heap → Prop} (H : ∀ h', Ext h h' → R (.string (AY (MB n))) h') : AA A P IE #[.int .u32 (n : Int)] h R := by
 refine YO ?_
 unfold NN
 refine New.mk fun h1 _ hb x _ => ?_
 have e0 : IntKind.wrap .u8 (n : Int) = (((Gq (n % 256)).toNat : Nat) : Int) := by rw [wrap_u8, HZ (Nat.mod_lt _ (by decide))]
 rw [SV, SV, SV, e0] at hb
 have o : Own JB Ct h1 ⟨some ⟨h.size, 0, none⟩, 4, 4⟩ (MB n) := Own.lit (E := JB) (l := MB n) hb rfl (by simp [maxLen, MB])
 exact PE (s := ⟨some ⟨h.size, 0, none⟩, 4, 4⟩) ADf AJ1 KY o.view ⟨_, rfl, H _ x⟩
theorem VZ {A : Amb} {h : Heap} {l : List UInt8} {R : Value → Heap → Prop} (hl : l.length ≤ 1099511627776) (H1 : 1048576 < l.length → R (.tuple #[.string ⟨#[]⟩, .int .i64 2]) h)
  (H : l.length ≤ 1048576 → ∀ h', Ext h h' → R (.tuple #[.string (AY (Bf l)), .int .i64 0]) h') : AA A P EN #[.string (AY l)] h R := by
 refine Xk ?_
 unfold MV
 rw [AV]
 refine PIf.intro (fun hq => H1 (by simp at hq; omega)) (fun hq => ?_)
 have hlen : l.length ≤ 1048576 := by simp at hq; omega
 have := Af (n := l.length) (by omega)
 rw [Co (by omega)]
 refine Fy (by omega) fun h1 x1 => ⟨_, rfl, ?_⟩
 refine AEd hl ⟨_, rfl, ?_⟩
 refine ABu fun h2 x2 => ⟨_, rfl, ⟨?_, ?_, ?_⟩⟩
 ·rw [AV, AV, max_i64, Ha]; omega
 ·rw [CK, AV, max_i64, List.length_append, Ha]; omega
 ·rw [CK, CK]
  exact H hlen _ (x1.trans x2)
theorem ACB {A : Amb} {h : Heap} {l : List UInt8} {R : Value → Heap → Prop} (hl : l.length ≤ 8796093022208)
  (H : ∀ h', Ext h h' → R (.tuple #[.string (AY (Ei l).2.1), .string (AY (Ei l).2.2), .int .i64 ((Ei l).1 : Int)]) h') : AA A P Jk #[.string (AY l)] h R := by
 refine YF ?_
 unfold NU
 rw [AV]
 have H0 := H h Mod.refl
 refine AE0 (by rw [AV]; exact hl) (fun hn => ⟨_, _, _, rfl, ?_⟩) (fun n t hn => ⟨_, _, _, rfl, ?_⟩) <;> rw [DX] at hn
 ·have hnx : Ei l = if l.length < 10 ∧ ∀ c ∈ l, 128 ≤ c.toNat then (20, [], []) else (21, [], []) := by unfold Ei; rw [hn]
  rw [hnx] at H0
  refine Join.mk fun K hK => PIf.yes rfl (hK _ _ ?_)
  refine PIf.intro (fun hq => ?_) (fun hq => ?_)
  ·have h10 : l.length < 10 := by simp at hq; omega
   refine Loop.rule (fun m x hh => ∃ i : Nat, x = ((i : Int), ()) ∧ hh = h ∧ m = l.length - i ∧ i ≤ l.length ∧ ∀ c ∈ l.take i, 128 ≤ c.toNat) ?_ ⟨0, rfl, rfl, rfl, by omega, by simp⟩
   rintro K1 m _ hh ⟨i, rfl, e, rfl, hi, hall⟩ hK1
   subst hh
   refine PIf.intro (fun hq2 => ?_) (fun hq2 => ?_)
   ·have hil : i < l.length := by simpa using hq2
    obtain ⟨c, hc⟩ : ∃ c, l[i]? = some c := ⟨_, List.getElem?_eq_getElem hil⟩
    refine ⟨⟨by dsimp only; omega, by dsimp only; omega⟩, ?_⟩
    dsimp only
    rw [NV (c := c) (by rw [DX]; exact hc)]
    refine PIf.intro (fun hq3 => ?_) (fun hq3 => ?_)
    ·rw [if_neg] at H0
     ·exact H0
     ·rintro ⟨_, h2⟩
      have := h2 c (List.mem_of_getElem? hc)
      simp at hq3; omega
    ·rw [AQ (by omega)]
     refine hK1 (l.length - (i + 1)) _ _ (by omega) ⟨i + 1, rfl, rfl, rfl, hil, fun x hx => ?_⟩
     rw [List.take_add_one, hc, Option.toList_some] at hx
     rcases List.mem_append.1 hx with hx | hx
     ·exact hall x hx
     ·simp at hx; subst hx; simp at hq3; omega
   ·have hil : i = l.length := by simp at hq2; omega
    rw [List.take_of_length_le (by omega)] at hall
    rw [if_pos ⟨h10, hall⟩] at H0
    exact H0
  ·have h10 : ¬ l.length < 10 := by simp at hq; omega
   rw [if_neg (fun hh => h10 hh.1)] at H0
   refine Join.mk fun K2 hK2 => PIf.yes rfl (hK2 _ _ (PIf.yes rfl H0))
 ·obtain ⟨el, hn64⟩ := AEQ hn
  have htl : t.length ≤ 8796093022208 := by rw [el] at hl; simp at hl; omega
  have hnx : Ei l = if 1048576 < n then (21, [], []) else if t.length < 4 + n then (20, [], [])
    else if t.take 4 = MB (ACd ((t.drop 4).take n)) then (0, (t.drop 4).take n, t.drop (4 + n)) else (21, [], []) := by unfold Ei; rw [hn]
  rw [hnx] at H0 H
  refine Join.mk fun K hK => PIf.no rfl (hK _ _ (PIf.no rfl ?_))
  refine Join.mk fun K2 hK2 => PIf.no rfl (hK2 _ _ ?_)
  refine PIf.intro (fun hq => ?_) (fun hq => ?_)
  ·have h1 : 1048576 < n := by simp at hq; omega
   rw [if_pos h1] at H0
   exact H0
  have h1 : ¬ 1048576 < n := by simp at hq; omega
  rw [if_neg h1] at H0 H
  rw [AV]
  refine Join.mk fun K3 hK3 => ?_
  have key : ∀ bb : Bool, (bb = true ↔ t.length < 4 + n) → K3 (bb, ()) h := fun bb hbb => by
   refine hK3 _ _ ?_
   refine PIf.intro (fun hq => ?_) (fun hq => ?_)
   ·rw [if_pos (hbb.1 hq)] at H0
    exact H0
   have h2 : ¬ t.length < 4 + n := fun hh => by have hq : bb = false := hq; rw [hbb.2 hh] at hq; cases hq
   rw [if_neg h2] at H0 H
   have e4 : IntKind.wrap .u64 ((4 : Int) + (n : Int)) = ((4 + n : Nat) : Int) := by rw [show (4 : Int) + (n : Int) = ((4 + n : Nat) : Int) by simp]; exact Co (by omega)
   rw [e4]
   refine ⟨⟨by omega, by omega⟩, ⟨by omega, by omega⟩, ⟨by omega, by omega⟩, ?_⟩
   have eb : (AY t).extract (4 : Int).toNat ((4 + n : Nat) : Int).toNat = AY ((t.drop 4).take n) := by
    rw [show (4 : Int).toNat = 4 from rfl, Int.toNat_natCast, AGT, List.drop_take]; congr 2; omega
   have em : (AY t).extract 0 (4 : Int).toNat = AY (t.take 4) := YZ _ _
   have er : (AY t).extract ((4 + n : Nat) : Int).toNat (AY t).size = AY (t.drop (4 + n)) := by rw [Int.toNat_natCast, Zb]
   rw [AV] at er
   rw [eb, em, er]
   refine AEd (by simp; omega) ⟨_, rfl, ?_⟩
   refine ABu fun h2 x2 => ⟨_, rfl, ?_⟩
   have H2 := H h2 x2
   rw [BO]
   refine PIf.intro (fun hq => ?_) (fun hq => ?_)
   ·rw [if_neg (by simp [WG] at hq; exact hq)] at H2
    exact H2
   ·rw [if_pos (by simp [WG] at hq; exact hq)] at H2
    exact ⟨⟨by omega, by omega⟩, H2⟩
  refine PIf.intro (fun hq => key _ ⟨fun _ => by simp at hq; omega, fun _ => rfl⟩) (fun hq => key _ ?_)
  have h4 : 4 ≤ t.length := by simp at hq; omega
  have e1 : IntKind.wrap .u64 (IntKind.wrap .i64 ((t.length : Int) - (4 : Int))) = ((t.length - 4 : Nat) : Int) := by
   rw [show (t.length : Int) - (4 : Int) = ((t.length - 4 : Nat) : Int) by omega, FJ (by omega), Co (by omega)]
  rw [e1]
  simp
  omega
end Go.Lf.G

/-
 Contracts: the box (chapter 3): its state in memory; its small methods; Append, Sync, Read, Delete.
-/
set_option maxRecDepth 100000
set_option linter.unusedVariables false
set_option linter.unusedSimpArgs false
namespace Go.Lf.G
open Go
theorem FM.mk {h : Heap} {a : Addr} {K : Option Nat → Prop} {n : Option Nat} (hv : hget h a = some (.map n)) (H : K n) : FM h a K := ⟨n, hv, H⟩
theorem Q6 : P.underlying Az = some (.map Ae AAo) := by kernel_rfl
theorem ZM : (zeroValue AAo).calc P = some (.pointer none) := by kernel_rfl
abbrev kvM (kv : List (Fi × Nat)) : List (ByteArray × Value) := kv.map fun p => (p.1.name, BA p.2)
structure Ce (h : Heap) (b r : Nat) (kv : List (Fi × Nat)) (m : Bx) : Prop where
 head : h[b]? = some (.cells #[.map (some r), .int .i64 m.fuel, .bool m.down] TI (0, 0))
 map : Ob h r (kvM kv)
 cells : ∀ p ∈ kv, h[p.2]? = some (.cells #[.string p.1.firm, .string p.1.soft] KV (0, 0))
 perm : (kv.map (·.1)).Perm m.files
 nodup : (kv.map (·.2)).Nodup
 good : Cu m
def EX (b r : Nat) (kv : List (Fi × Nat)) (c : Nat) : Prop := c = b ∨ c = r ∨ ∃ p ∈ kv, p.2 = c
def BX (h : Heap) (b : Nat) (S : Nat → Prop) (m : Bx) : Prop := ∃ r kv, Ce h b r kv m ∧ ∀ c, S c ↔ EX b r kv c
theorem Ce.ne_br {h : Heap} {b r : Nat} {kv : List (Fi × Nat)} {m : Bx} (B : Ce h b r kv m) : r ≠ b := by
 rintro rfl
 obtain ⟨es, cl, hr, _⟩ := B.map
 rw [B.head] at hr; cases hr
theorem Ce.ne_pb {h : Heap} {b r : Nat} {kv : List (Fi × Nat)} {m : Bx} (B : Ce h b r kv m) {p : Fi × Nat} (hp : p ∈ kv) : p.2 ≠ b ∧ p.2 ≠ r := by
 have h1 := B.cells p hp
 constructor
 ·intro e; rw [e, B.head] at h1; cases h1
 ·intro e
  obtain ⟨es, cl, hr, _⟩ := B.map
  rw [e, hr] at h1; cases h1
theorem Ce.lt {h : Heap} {b r : Nat} {kv : List (Fi × Nat)} {m : Bx} (B : Ce h b r kv m) {c : Nat} (hc : EX b r kv c) : c < h.size := by
 rcases hc with rfl | rfl | ⟨p, hp, rfl⟩
 ·exact Ak B.head
 ·exact B.map.lt
 ·exact Ak (B.cells p hp)
theorem BX.lt {h : Heap} {b : Nat} {S : Nat → Prop} {m : Bx} (B : BX h b S m) {c : Nat} (hc : S c) : c < h.size := by
 obtain ⟨r, kv, B, hS⟩ := B
 exact B.lt ((hS c).1 hc)
theorem BX.good {h : Heap} {b : Nat} {S : Nat → Prop} {m : Bx} (B : BX h b S m) : Cu m := by
 obtain ⟨r, kv, B, hS⟩ := B; exact B.good
theorem Ce.mod {h h' : Heap} {b r : Nat} {kv : List (Fi × Nat)} {m : Bx} {T : Nat → Prop} (B : Ce h b r kv m) (x : Mod T h h') (hT : ∀ c, EX b r kv c → ¬ T c) : Ce h' b r kv m :=
 ⟨x.blk B.head (hT _ (.inl rfl)), B.map.mod x (hT _ (.inr (.inl rfl))), fun p hp => x.blk (B.cells p hp) (hT _ (.inr (.inr ⟨p, hp, rfl⟩))), B.perm, B.nodup, B.good⟩
theorem BX.mod {h h' : Heap} {b : Nat} {S T : Nat → Prop} {m : Bx} (B : BX h b S m) (x : Mod T h h') (hT : ∀ c, S c → ¬ T c) : BX h' b S m := by
 obtain ⟨r, kv, B, hS⟩ := B
 exact ⟨r, kv, B.mod x fun c hc => hT c ((hS c).2 hc), hS⟩
theorem BX.ext {h h' : Heap} {b : Nat} {S : Nat → Prop} {m : Bx} (B : BX h b S m) (x : Ext h h') : BX h' b S m := B.mod x fun _ _ h => h
theorem Ce.hd {h h' : Heap} {b r : Nat} {kv : List (Fi × Nat)} {m m' : Bx} (B : Ce h b r kv m) (hb : h'[b]? = some (.cells #[.map (some r), .int .i64 m'.fuel, .bool m'.down] TI (0, 0))) (x : Mod (· = b) h h') (hf : m'.files = m.files) (g : Cu m') : Ce h' b r kv m' :=
 ⟨hb, B.map.mod x B.ne_br, fun p hp => x.blk (B.cells p hp) (B.ne_pb hp).1, by rw [hf]; exact B.perm, B.nodup, g⟩
theorem AE5 (k : ByteArray) : ∀ kv : List (Fi × Nat), Nf k (kvM kv) = (kv.find? fun p => decide (p.1.name = k)).map fun p => BA p.2
 | [] => rfl
 | p :: kv => by
  show Nf k ((p.1.name, BA p.2) :: kvM kv) = _
  rw [KZ, AE5 k kv, List.find?_cons]
  by_cases h : p.1.name = k <;> simp [h]
theorem Ce.mem {h : Heap} {b r : Nat} {kv : List (Fi × Nat)} {m : Bx} (B : Ce h b r kv m) {f : Fi} : f ∈ m.files ↔ ∃ c, (f, c) ∈ kv := by
 rw [← B.perm.mem_iff]
 constructor
 ·intro h; obtain ⟨p, hp, rfl⟩ := List.mem_map.1 h; exact ⟨p.2, hp⟩
 ·rintro ⟨c, hc⟩; exact List.mem_map.2 ⟨_, hc, rfl⟩
theorem Ce.look {h : Heap} {b r : Nat} {kv : List (Fi × Nat)} {m : Bx} (B : Ce h b r kv m) (k : ByteArray) :
  (Nf k (kvM kv) = none ∧ BH k m.files = none) ∨ ∃ p ∈ kv, Nf k (kvM kv) = some (BA p.2) ∧ BH k m.files = some p.1 ∧ p.1.name = k := by
 rw [AE5]
 cases hf : kv.find? fun p => decide (p.1.name = k) with
 | none =>
  refine .inl ⟨rfl, OD fun f hm => ?_⟩
  obtain ⟨c, hc⟩ := B.mem.1 hm
  rw [List.find?_eq_none] at hf
  simpa using hf _ hc
 | some p =>
  have h1 : p.1.name = k := by simpa using List.find?_some hf
  have h2 := List.mem_of_find?_eq_some hf
  refine .inr ⟨p, h2, rfl, ?_, h1⟩
  rw [← h1]
  exact B.good.sorted.find (B.mem.2 ⟨p.2, h2⟩)
theorem DK.uniq {l : List Fi} (s : DK l) {x y : Fi} (hx : x ∈ l) (hy : y ∈ l) (h : x.name = y.name) : x = y := by
 have h1 := s.find hx
 rw [h, s.find hy] at h1
 exact (Option.some.inj h1).symm
theorem ABC {kv : List (Fi × Nat)} {l : List Fi} (p : (kv.map (·.1)).Perm l) (s : DK l) : (kv.map fun q => q.1.name).Nodup := by
 have h1 : (l.map (·.name)).Nodup := by
  refine List.pairwise_map.2 (s.imp fun h => Jg h)
 have h2 : (kv.map fun q => q.1.name).Perm (l.map (·.name)) := by
  have := p.map (·.name)
  simpa [List.map_map, Function.comp_def] using this
 exact (h2.nodup_iff).2 h1
theorem Ce.inj {h : Heap} {b r : Nat} {kv : List (Fi × Nat)} {m : Bx} (B : Ce h b r kv m) {p q : Fi × Nat} (hp : p ∈ kv) (hq : q ∈ kv) (e : p.1.name = q.1.name) : p = q := by
 have hn := ABC B.perm B.good.sorted
 obtain ⟨i, hi, rfl⟩ := List.getElem_of_mem hp
 obtain ⟨j, hj, rfl⟩ := List.getElem_of_mem hq
 have : i = j := by
  have hi' : i < (kv.map fun q => q.1.name).length := by simpa using hi
  have hj' : j < (kv.map fun q => q.1.name).length := by simpa using hj
  refine (List.getElem_inj (h₀ := hi') (h₁ := hj') hn).1 ?_
  simpa using e
 subst this; rfl
theorem Ce.set {h h' : Heap} {b r : Nat} {kv : List (Fi × Nat)} {m : Bx} (B : Ce h b r kv m) {p : Fi × Nat} (hp : p ∈ kv) {g : Fi → Fi} (hg : ∀ f, (g f).name = f.name)
  (hc : h'[p.2]? = some (.cells #[.string (g p.1).firm, .string (g p.1).soft] KV (0, 0))) (x : Mod (· = p.2) h h') (gd : Cu { m with files := LJ p.1.name g m.files }) :
  Ce h' b r (kv.map fun q => (if q.1.name = p.1.name then g q.1 else q.1, q.2)) { m with files := LJ p.1.name g m.files } := by
 refine ⟨x.blk B.head (B.ne_pb hp).1.symm, ?_, ?_, ?_, ?_, gd⟩
 ·have e : kvM (kv.map fun q => (if q.1.name = p.1.name then g q.1 else q.1, q.2)) = kvM kv := by
   simp only [kvM, List.map_map]
   refine List.map_congr_left fun q _ => ?_
   simp only [Function.comp]
   split <;> simp [hg]
  rw [e]
  exact B.map.mod x (B.ne_pb hp).2.symm
 ·intro q hq
  obtain ⟨q', hq', rfl⟩ := List.mem_map.1 hq
  simp only
  by_cases e : q'.1.name = p.1.name
  ·rw [if_pos e]
   have := B.inj hq' hp e
   subst this
   exact hc
  ·rw [if_neg e]
   refine x.blk (B.cells q' hq') fun e2 => e ?_
   have hn := B.nodup
   obtain ⟨i, hi, rfl⟩ := List.getElem_of_mem hp
   obtain ⟨j, hj, rfl⟩ := List.getElem_of_mem hq'
   have : j = i := by
    have hi' : i < (kv.map (·.2)).length := by simpa using hi
    have hj' : j < (kv.map (·.2)).length := by simpa using hj
    refine (List.getElem_inj (h₀ := hj') (h₁ := hi') hn).1 ?_
    simpa using e2
   subst this; rfl
 ·have h1 := B.perm.map fun f => if f.name = p.1.name then g f else f
  simpa [LJ, List.map_map, Function.comp_def] using h1
 ·simpa [List.map_map, Function.comp_def] using B.nodup
theorem ACE {b r : Nat} {kv : List (Fi × Nat)} {g : Fi × Nat → Fi} (c : Nat) : EX b r (kv.map fun q => (g q, q.2)) c ↔ EX b r kv c := by
 unfold EX
 constructor
 ·rintro (h | h | ⟨p, hp, rfl⟩)
  ·exact .inl h
  ·exact .inr (.inl h)
  ·obtain ⟨q, hq, rfl⟩ := List.mem_map.1 hp
   exact .inr (.inr ⟨q, hq, rfl⟩)
 ·rintro (h | h | ⟨p, hp, rfl⟩)
  ·exact .inl h
  ·exact .inr (.inl h)
  ·exact .inr (.inr ⟨_, List.mem_map.2 ⟨p, hp, rfl⟩, rfl⟩)
theorem XP {k : ByteArray} {v : Value} : ∀ {m : List (ByteArray × Value)}, Nf k m = none → TG k v m = m ++ [(k, v)]
 | [], _ => rfl
 | p :: m, h => by
  rw [KZ] at h
  split at h
  ·cases h
  ·rename_i hk
   unfold TG
   rw [if_neg hk, XP h]; rfl
theorem Wy {A : Amb} {h : Heap} {b : Nat} {c0 c1 : Value} {down : Bool} {T : TypeId} {R : Value → Heap → Prop} (hb : h[b]? = some (.cells #[c0, c1, .bool down] T (0, 0))) (H : R (.bool down) h) :
  AA A P Dn #[BA b] h R := by
 refine Xc ?_
 unfold LU
 exact PIf.no rfl (atI (AZ.mk (AB hb rfl) H))
theorem AGo {A : Amb} {h : Heap} {name : ByteArray} {R : Value → Heap → Prop} (H : R (.bool (Hw name)) h) : AA A P Kk #[.string name] h R := by
 refine AAT ?_
 unfold O6
 unfold Hw at H
 rw [BO]
 refine PIf.intro (fun hq => ?_) (fun hq => ?_)
 ·rw [hq] at H; exact H
 ·rw [hq] at H
  have e : decide ((name.size : Int) > (32 : Int)) = decide (name.size > 32) := by rw [decide_eq_decide]; omega
  rw [e]; simpa using H
def AEP (fuel : Int) : Int := if fuel > 0 then fuel - 1 else fuel
theorem AH3 {A : Amb} {h : Heap} {b : Nat} {c0 : Value} {fuel : Int} {down : Bool} {T : TypeId} {R : Value → Heap → Prop} (hb : h[b]? = some (.cells #[c0, .int .i64 fuel, .bool down] T (0, 0))) (lo : -1 ≤ fuel) (hi : fuel ≤ 9223372036854775807)
  (H1 : fuel = 0 → ∀ h', h'[b]? = some (.cells #[c0, .int .i64 fuel, .bool true] T (0, 0)) → Mod (· = b) h h' → h'.size = h.size → R (.bool false) h')
  (H2 : fuel ≠ 0 → ∀ h', h'[b]? = some (.cells #[c0, .int .i64 (AEP fuel), .bool down] T (0, 0)) → Mod (· = b) h h' → h'.size = h.size → R (.bool true) h') : AA A P D6 #[BA b] h R := by
 refine Uf ?_
 unfold KS
 refine atI (Aa.mk (AB hb rfl) ?_)
 refine PIf.intro (fun hq => ?_) (fun hq => ?_)
 ·refine atI (Store.mk1 hb (by simp) fun h1 hb1 m1 hs1 => ?_)
  exact H1 (by simpa using hq) h1 (by simpa using hb1) m1 hs1
 ·have hq : fuel ≠ 0 := by simpa using hq
  have H2 := H2 hq
  unfold AEP at H2
  refine Join.mk fun K hK => ?_
  refine atI (Aa.mk (AB hb rfl) ?_)
  refine PIf.intro (fun hq => ?_) (fun hq => ?_)
  ·have hp : fuel > 0 := by simpa using hq
   rw [if_pos hp] at H2
   refine atI (Aa.mk (AB hb rfl) (atI (Store.mk1 hb (by simp) fun h1 hb1 m1 hs1 => hK _ _ ?_)))
   rw [wrap_i64 (by omega) (by omega)] at hb1
   exact H2 h1 (by simpa using hb1) m1 hs1
  ·have hp : ¬ fuel > 0 := by simpa using hq
   rw [if_neg hp] at H2
   exact hK _ _ (H2 h hb Mod.refl rfl)
theorem Gb (m : Bx) : (Ej m).fuel = AEP m.fuel ∧ (Ej m).down = m.down ∧ (Ej m).files = m.files := by
 unfold Ej AEP; split <;> simp
theorem AD6 {m : Bx} (g : Cu m) : Cu (Ej m) := by
 have := g.tick m.files g.sorted g.names g.wt
 rwa [← (Gb m).2.2] at this
theorem Ce.burn {A : Amb} {h : Heap} {b r : Nat} {kv : List (Fi × Nat)} {m : Bx} (B : Ce h b r kv m) {R : Value → Heap → Prop}
  (H1 : m.fuel = 0 → ∀ h', Ce h' b r kv (IM m) → Mod (EX b r kv) h h' → R (.bool false) h')
  (H2 : m.fuel ≠ 0 → ∀ h', Ce h' b r kv (Ej m) → Mod (EX b r kv) h h' → h'.size = h.size → R (.bool true) h') : AA A P D6 #[BA b] h R := by
 refine AH3 B.head B.good.lo B.good.hi (fun hz h1 hb1 m1 hs1 => ?_) (fun hz h1 hb1 m1 hs1 => ?_)
 ·exact H1 hz h1 (B.hd hb1 m1 rfl B.good.off) (m1.weak fun c _ hc => .inl hc)
 ·obtain ⟨e1, e2, e3⟩ := Gb m
  refine H2 hz h1 (B.hd ?_ m1 e3 (AD6 B.good)) (m1.weak fun c _ hc => .inl hc) hs1
  rw [e1, e2]; exact hb1
theorem Ce.putSoft {h : Heap} {b r : Nat} {kv : List (Fi × Nat)} {m : Bx} (B : Ce h b r kv m) {p : Fi × Nat} (hp : p ∈ kv) {data : ByteArray} (gd : Cu { m with files := LJ p.1.name (Ml data) m.files }) {K : Heap → Prop}
  (H : ∀ h' kv', Ce h' b r kv' { m with files := LJ p.1.name (Ml data) m.files } → Mod (EX b r kv) h h' → (∀ c, EX b r kv' c ↔ EX b r kv c) → K h') :
  At (some ⟨p.2, 0, none⟩) fun a1 => AC h (a1.add 1) fun t => Chk (((t.size + data.size : Nat) : Int) ≤ IntKind.i64.max) <| At (some ⟨p.2, 0, none⟩) fun a2 => Store h (a2.add 1) (.string (t ++ data)) K := by
 have hc := B.cells p hp
 refine atI (AC.mk (AB hc rfl) ⟨?_, atI (Store.mk1 hc (by simp) fun h1 hb1 m1 hs1 => ?_)⟩)
 ·have h1 : wtF (LJ p.1.name (Ml data) m.files) ≤ 8796093022208 := gd.wt
  have h2 : Ml data p.1 ∈ LJ p.1.name (Ml data) m.files := by
   refine List.mem_map.2 ⟨p.1, B.mem.2 ⟨p.2, hp⟩, by simp⟩
  have h3 := Rk h2
  simp only [Ml, ACk] at h3
  simp [IntKind.max, IntKind.bits, IntKind.signed]
  omega
 ·exact H h1 _ (B.set hp (g := Ml data) (fun _ => rfl) (by simpa [Ml] using hb1) m1 gd) (m1.weak fun c _ hc => .inr (.inr ⟨p, hp, hc.symm⟩)) (fun c => ACE (g := fun q => if q.1.name = p.1.name then Ml data q.1 else q.1) c)
theorem Wq {A : Amb} {h : Heap} {b : Nat} {S : Nat → Prop} {m : Bx} {name data : ByteArray} {R : Value → Heap → Prop} (B : BX h b S m) (hw : wtF m.files + data.size + 1 ≤ 8796093022208)
  (H : ∀ h' S', BX h' b S' (CP m name data).2 → Mod S h h' → (∀ c, S' c → S c ∨ h.size ≤ c) → R (.int .i64 (CP m name data).1) h') : AA A P Ed #[BA b, .string name, .string data] h R := by
 have hgood := B.good.append (name := name) (data := data) hw
 obtain ⟨r, kv, B, hS⟩ := B
 refine Rm ?_
 unfold Ie
 refine Wy B.head ⟨_, rfl, ?_⟩
 unfold CP at H hgood
 refine PIf.intro (fun hd => ?_) (fun hd => ?_)
 ·rw [if_pos hd] at H; exact H h S ⟨r, kv, B, hS⟩ Mod.refl (fun c hc => .inl hc)
 rw [if_neg (by simp [hd])] at H hgood
 refine AGo ⟨_, rfl, ?_⟩
 refine PIf.intro (fun hn => ?_) (fun hn => ?_)
 ·rw [if_pos hn] at H; exact H h S ⟨r, kv, B, hS⟩ Mod.refl (fun c hc => .inl hc)
 rw [if_neg (by simp [hn])] at H hgood
 have hmS : ∀ {h1 : Heap}, Mod (EX b r kv) h h1 → Mod S h h1 := fun m1 => m1.weak fun c _ hc => (hS c).2 hc
 refine B.burn (fun hz h1 B1 m1 => ⟨_, rfl, ?_⟩) (fun hz h1 B1 m1 hs1 => ⟨_, rfl, ?_⟩)
 ·rw [if_pos hz] at H
  exact PIf.yes rfl (H h1 S ⟨r, kv, B1, hS⟩ (hmS m1) (fun c hc => .inl hc))
 rw [if_neg hz] at H hgood
 refine PIf.no rfl ?_
 refine atI (FM.mk (AJ B1.head rfl) (Jv Q6 KY ZM B1.map ?_))
 rcases B1.look name with ⟨k1, k2⟩ | ⟨p, hp, k1, k2, k3⟩
 ·
  rw [k1]
  refine ⟨none, rfl, Join.mk fun K hK => PIf.yes rfl ?_⟩
  refine New.mk fun h2 _ hb2 x2 hs2 => ?_
  have B2 := B1.mod x2 (fun _ _ h => h)
  refine atI (FM.mk (AJ B2.head rfl) ?_)
  have hsz : name.size ≤ 32 := by simp [Hw] at hn; omega
  have hlen := Mw (Ej m).files
  have hkl : kv.length = (Ej m).files.length := by rw [← B1.perm.length_eq]; simp
  rw [(Gb m).2.2] at hkl
  have hl2 := Mw m.files
  refine Za Q6 KY B2.map (by simp [maxLen]; omega) (by simp [kvM, maxLen]; omega) fun h3 M3 m3 hs3 => ?_
  rw [XP k1] at M3
  have hb3 := m3.blk hb2 (by have := B1.map.lt; omega)
  have kf := k2
  rw [(Gb m).2.2] at kf
  have hhave : OM name m.files = XO ⟨name, bs0, bs0⟩ m.files := by unfold OM; rw [kf]; rfl
  have hn2 := KG kf
  have hws := AE7 ⟨name, bs0, bs0⟩ m.files
  simp only [sz0] at hws
  have B3 : Ce h3 b r (kv ++ [(⟨name, bs0, bs0⟩, h1.size)]) { Ej m with files := XO ⟨name, bs0, bs0⟩ m.files } := by
   refine ⟨m3.blk B2.head B2.ne_br.symm, ?_, ?_, ?_, ?_, ?_⟩
   ·rw [kvM, List.map_append]; exact M3
   ·intro p hp
    rcases List.mem_append.1 hp with hp | hp
    ·exact m3.blk (B2.cells p hp) (B2.ne_pb hp).2
    ·simp at hp; subst hp; exact hb3
   ·rw [List.map_append]
    refine (List.perm_append_singleton _ _).trans (((B1.perm.trans (List.Perm.of_eq (Gb m).2.2)).cons _).trans (Jy _ _).symm)
   ·rw [List.map_append]
    refine List.nodup_append.2 ⟨B1.nodup, by simp, ?_⟩
    intro a ha c hc
    obtain ⟨p, hp, rfl⟩ := List.mem_map.1 ha
    simp at hc; subst hc
    have := Ak (B1.cells p hp); omega
   ·refine B.good.tick _ (Oi B.good.sorted hn2) (fun f hf => ?_) (by omega)
    rcases List.mem_cons.1 ((Jy _ _).subset hf) with rfl | hf
    ·exact hsz
    ·exact B.good.names f hf
  refine hK _ _ ?_
  rw [hhave] at H hgood
  refine B3.putSoft (p := (⟨name, bs0, bs0⟩, h1.size)) (by simp) (data := data) hgood fun h4 kv4 B4 m4 e4 => ?_
  have hf4 : ∀ c, EX b r kv4 c → EX b r kv c ∨ h.size ≤ c := fun c hc => by
   rcases (e4 c).1 hc with h | h | ⟨p, hp, rfl⟩
   ·exact .inl (.inl h)
   ·exact .inl (.inr (.inl h))
   ·rcases List.mem_append.1 hp with hp | hp
    ·exact .inl (.inr (.inr ⟨p, hp, rfl⟩))
    ·simp at hp; subst hp; exact .inr (by have := m1.size; simpa using this)
  refine H h4 (EX b r kv4) ⟨r, kv4, B4, fun _ => Iff.rfl⟩ ?_ (fun c hc => (hf4 c hc).imp (hS c).2 id)
  have m13 : Mod (EX b r kv) h1 h3 := x2.mod.trans (m3.weak fun c _ hc => .inr (.inl hc))
  refine hmS ((m1.trans m13).then (m4.weak fun c _ hc => hf4 c ((e4 c).2 hc)))
 ·
  rw [k1]
  refine ⟨some ⟨p.2, 0, none⟩, rfl, Join.mk fun K hK => PIf.no rfl (hK _ _ ?_)⟩
  have kf := k2
  rw [(Gb m).2.2] at kf
  have hhave : OM name m.files = m.files := by unfold OM; rw [kf]; rfl
  rw [hhave] at H hgood
  subst k3
  have e3 := (Gb m).2.2
  refine B1.putSoft hp (data := data) (by rw [e3]; exact hgood) fun h4 kv4 B4 m4 e4 => ?_
  refine H h4 S ⟨r, kv4, by rw [e3] at B4; exact B4, fun c => (hS c).trans (e4 c).symm⟩ (hmS (m1.trans m4)) (fun c hc => .inl hc)
theorem AB3 {A : Amb} {h : Heap} {b : Nat} {S : Nat → Prop} {m : Bx} {name : ByteArray} {R : Value → Heap → Prop} (B : BX h b S m)
  (H : ∀ h', BX h' b S (EI m name).2 → Mod S h h' → R (.int .i64 (EI m name).1) h') : AA A P F9 #[BA b, .string name] h R := by
 have hgood := B.good.sync (name := name)
 obtain ⟨r, kv, B, hS⟩ := B
 refine Uk ?_
 unfold J8
 refine Wy B.head ⟨_, rfl, ?_⟩
 unfold EI at H hgood
 have hmS : ∀ {h1 : Heap}, Mod (EX b r kv) h h1 → Mod S h h1 := fun m1 => m1.weak fun c _ hc => (hS c).2 hc
 refine PIf.intro (fun hd => ?_) (fun hd => ?_)
 ·rw [if_pos hd] at H; exact H h ⟨r, kv, B, hS⟩ Mod.refl
 rw [if_neg (by simp [hd])] at H hgood
 refine atI (FM.mk (AJ B.head rfl) (Jv Q6 KY ZM B.map ?_))
 rcases B.look name with ⟨k1, k2⟩ | ⟨p, hp, k1, k2, k3⟩
 ·rw [k1]
  rw [k2] at H
  exact ⟨none, rfl, PIf.yes rfl (H h ⟨r, kv, B, hS⟩ Mod.refl)⟩
 rw [k1]
 rw [k2, if_neg (by simp)] at H hgood
 refine ⟨some ⟨p.2, 0, none⟩, rfl, PIf.no rfl ?_⟩
 refine B.burn (fun hz h1 B1 m1 => ⟨_, rfl, ?_⟩) (fun hz h1 B1 m1 hs1 => ⟨_, rfl, ?_⟩)
 ·rw [if_pos hz] at H
  exact PIf.yes rfl (H h1 ⟨r, kv, B1, hS⟩ (hmS m1))
 rw [if_neg hz] at H hgood
 refine PIf.no rfl ?_
 refine atI (FM.mk (AJ B1.head rfl) (Jv Q6 KY ZM B1.map ?_))
 rw [k1]
 refine ⟨some ⟨p.2, 0, none⟩, rfl, ?_⟩
 have hc := B1.cells p hp
 refine atI (AC.mk (AJ hc rfl) (atI (AC.mk (AB hc rfl) ⟨?_, ?_⟩)))
 ·have h3 := Rk (GI k2).2
  have := B.good.wt
  simp [IntKind.max, IntKind.bits, IntKind.signed]; omega
 refine atI (Store.mk hc (by simp) fun h2 hb2 m2 hs2 => atI (Store.mk1 hb2 (by simp) fun h3 hb3 m3 hs3 => ?_))
 subst k3
 have e3 := (Gb m).2.2
 have B3 := B1.set hp (h' := h3) (g := NZ) (fun _ => rfl) (by simpa [NZ] using hb3) (m2.trans m3) (by rw [e3]; exact hgood)
 rw [e3] at B3
 refine H h3 ⟨r, _, B3, fun c => (hS c).trans (ACE (g := fun q => if q.1.name = p.1.name then NZ q.1 else q.1) c).symm⟩ (hmS (m1.trans ((m2.trans m3).weak fun c _ hc => .inr (.inr ⟨p, hp, hc.symm⟩))))
theorem Wl {A : Amb} {h : Heap} {b : Nat} {S : Nat → Prop} {m : Bx} {name : ByteArray} {R : Value → Heap → Prop} (B : BX h b S m)
  (H : R (.tuple #[.string (Ol m name).1, .int .i64 (Ol m name).2]) h) : AA A P Er #[BA b, .string name] h R := by
 obtain ⟨r, kv, B, hS⟩ := B
 refine Uc ?_
 unfold KO
 refine Wy B.head ⟨_, rfl, ?_⟩
 unfold Ol at H
 refine PIf.intro (fun hd => ?_) (fun hd => ?_)
 ·rw [if_pos hd] at H; exact H
 rw [if_neg (by simp [hd])] at H
 refine atI (FM.mk (AJ B.head rfl) (Jv Q6 KY ZM B.map ?_))
 rcases B.look name with ⟨k1, k2⟩ | ⟨p, hp, k1, k2, k3⟩
 ·rw [k1]
  rw [k2] at H
  exact ⟨none, rfl, PIf.yes rfl H⟩
 rw [k1]
 rw [k2] at H
 refine ⟨some ⟨p.2, 0, none⟩, rfl, PIf.no rfl ?_⟩
 have hc := B.cells p hp
 refine atI (AC.mk (AJ hc rfl) (atI (AC.mk (AB hc rfl) ⟨?_, H⟩)))
 have h3 := Rk (GI k2).2
 have := B.good.wt
 simp [IntKind.max, IntKind.bits, IntKind.signed]; omega
theorem AIM (k : ByteArray) (kv : List (Fi × Nat)) : AAV k (kvM kv) = kvM (kv.filter fun p => !decide (p.1.name = k)) := by
 unfold AAV kvM
 rw [List.filter_map]; rfl
theorem QF {A : Amb} {h : Heap} {b : Nat} {S : Nat → Prop} {m : Bx} {name : ByteArray} {R : Value → Heap → Prop} (B : BX h b S m)
  (H : ∀ h' S', BX h' b S' (EZ m name).2 → Mod S h h' → (∀ c, S' c → S c) → R (.int .i64 (EZ m name).1) h') : AA A P Dq #[BA b, .string name] h R := by
 have hgood := B.good.delete (name := name)
 obtain ⟨r, kv, B, hS⟩ := B
 refine RS ?_
 unfold IV
 refine Wy B.head ⟨_, rfl, ?_⟩
 unfold EZ at H hgood
 have hmS : ∀ {h1 : Heap}, Mod (EX b r kv) h h1 → Mod S h h1 := fun m1 => m1.weak fun c _ hc => (hS c).2 hc
 refine PIf.intro (fun hd => ?_) (fun hd => ?_)
 ·rw [if_pos hd] at H; exact H h S ⟨r, kv, B, hS⟩ Mod.refl (fun _ h => h)
 rw [if_neg (by simp [hd])] at H hgood
 refine atI (FM.mk (AJ B.head rfl) (Jv Q6 KY ZM B.map ?_))
 rcases B.look name with ⟨k1, k2⟩ | ⟨p, hp, k1, k2, k3⟩
 ·rw [k1]
  rw [k2] at H
  exact ⟨none, rfl, PIf.yes rfl (H h S ⟨r, kv, B, hS⟩ Mod.refl (fun _ h => h))⟩
 rw [k1]
 rw [k2, if_neg (by simp)] at H hgood
 refine ⟨some ⟨p.2, 0, none⟩, rfl, PIf.no rfl ?_⟩
 refine B.burn (fun hz h1 B1 m1 => ⟨_, rfl, ?_⟩) (fun hz h1 B1 m1 hs1 => ⟨_, rfl, ?_⟩)
 ·rw [if_pos hz] at H
  exact PIf.yes rfl (H h1 S ⟨r, kv, B1, hS⟩ (hmS m1) (fun _ h => h))
 rw [if_neg hz] at H hgood
 refine PIf.no rfl ?_
 refine atI (FM.mk (AJ B1.head rfl) (AFh Q6 KY B1.map fun h2 M2 m2 hs2 => ⟨rfl, ?_⟩))
 rw [AIM] at M2
 have e3 := (Gb m).2.2
 have B2 : Ce h2 b r (kv.filter fun p => !decide (p.1.name = name)) { Ej m with files := LK name m.files } := by
  refine ⟨m2.blk B1.head B1.ne_br.symm, M2, fun q hq => ?_, ?_, ?_, hgood⟩
  ·have hq := (List.mem_filter.1 hq).1
   exact m2.blk (B1.cells q hq) (B1.ne_pb hq).2
  ·have h1 := B.perm.filter fun f => !decide (f.name = name)
   rw [List.filter_map] at h1
   exact h1
  ·exact (List.filter_sublist.map _).nodup B.nodup
 refine H h2 (EX b r _) ⟨r, _, B2, fun _ => Iff.rfl⟩ (hmS (m1.trans (m2.weak fun c _ hc => .inr (.inl hc)))) (fun c hc => (hS c).2 ?_)
 rcases hc with h | h | ⟨p, hp, rfl⟩
 ·exact .inl h
 ·exact .inr (.inl h)
 ·exact .inr (.inr ⟨p, (List.mem_filter.1 hp).1, rfl⟩)
theorem VH {A : Amb} {h : Heap} {R : Value → Heap → Prop} (H : ∀ b h' S, BX h' b S AEA → Ext h h' → (∀ c, S c → h.size ≤ c) → R (BA b) h') : AA A P IY #[] h R := by
 refine AC8 ?_
 unfold SQ
 refine New.mk fun h1 _ hb1 x1 hs1 => New.mk fun h2 _ hb2 x2 hs2 => ?_
 refine H _ h2 (EX h1.size h.size []) ⟨_, [], ⟨hb2, Ob.empty (x2.blk hb1 (by simp)), by simp, List.Perm.refl _, by simp, AFi⟩, fun _ => Iff.rfl⟩ (x1.trans x2) ?_
 rintro c (rfl | rfl | ⟨p, hp, _⟩)
 ·omega
 ·exact Nat.le_refl _
 ·cases hp
end Go.Lf.G

