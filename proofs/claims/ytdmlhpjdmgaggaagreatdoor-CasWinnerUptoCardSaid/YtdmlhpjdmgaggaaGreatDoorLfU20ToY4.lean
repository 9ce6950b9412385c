/-
 Rows made by make; a table's filter, bit by bit.
-/
import Derived.Test.YtdmlhpjdmgaggaaGreatDoorLfU3ToB1
import Derived.Test.YtdmlhpjdmgaggaaGreatDoorLfU1ToU2
import Derived.Test.YtdmlhpjdmgaggaaGreatDoorLfS1aToU17
import Derived.Test.YtdmlhpjdmgaggaaGreatDoorLfKToU6
set_option linter.unusedVariables false
set_option linter.unusedSimpArgs false
set_option maxRecDepth 100000
set_option linter.unusedVariables false
set_option linter.unusedSimpArgs false
namespace Go.Lf
open Go
theorem AHJ (v : Value) (n : Nat) : (madeCells #[v] n).toList = List.replicate n v := by
 apply List.ext_getElem
 ·simp [madeCells]
 ·intro i h1 h2
  simp [madeCells, Nat.mod_one]
theorem ADI {α : Type} {E : Enc α} {x0 : α} {v : Value} (hx : E.enc x0 = [v]) : ∀ n, (List.replicate n x0).flatMap E.enc = List.replicate n v
 | 0 => rfl
 | n + 1 => by rw [List.replicate_succ, List.replicate_succ, List.flatMap_cons, hx, ADI hx n]; rfl
theorem AJh {A : Amb} {P : Program} {α : Type} {E : Enc α} {x0 : α} {v z : Value} {t T : TypeId} {B : Nat} (ht : P.underlying t = some (.slice T)) (hi : (P.info? T).map (fun i => (i.zero, i.size, i.bytes)) = some (some z, 1, B))
  (hz : z.cells = #[v]) (hw : E.w = 1) (hx : E.enc x0 = [v]) {h : Heap} {n : Nat} {kl kc : IntKind} (hn : n * B ≤ 140737488355328) (hm : n ≤ maxLen) {K : Sl → Heap → Prop}
  (H : ∀ h', Own E T h' ⟨some ⟨h.size, 0, none⟩, n, n⟩ (List.replicate n x0) → Ext h h' → h'.size = h.size + 1 → K ⟨some ⟨h.size, 0, none⟩, n, n⟩ h') :
  Ba A P (Instr.makeSlice t (.int kl (n : Int)) (.int kc (n : Int))) h fun v h' => ∃ s : Sl, v = .slice s.p s.len s.cap ∧ K s h' := by
 intro d
 cases hi0 : P.info? T with
 | none => rw [hi0] at hi; simp at hi
 | some i =>
  rw [hi0] at hi
  simp only [Option.map_some, Option.some.injEq, Prod.mk.injEq] at hi
  obtain ⟨h1, h2, h3⟩ := hi
  have hB : ((i.bytes : Nat) : Int) * ((n : Nat) : Int) ≤ 281474976710656 := by
   rw [h3, ← Int.natCast_mul, Nat.mul_comm]; omega
  have hr := run_make (P := P) (A.at h d) t T i z ht hi0 h1 kl kc (n : Int) (n : Int) (by omega) (Int.le_refl _) hB (by simp only [maxLen] at hm; omega)
  simp only [Int.toNat_natCast, h2, Nat.mul_one, hz] at hr
  refine ⟨_, h.push (.cells (madeCells #[v] n) T), d, hr, ⟨some ⟨h.size, 0, none⟩, n, n⟩, rfl, H _ ⟨by simp, .inr ⟨h.size, madeCells #[v] n, rfl, by simp, Nat.le_refl _, hm, by simp [size_madeCells, hw], ?_⟩⟩ (Mod.push h _) (by simp)⟩
  show (madeCells #[v] n).toList.take (n * E.w) = _
  rw [AHJ, hw, Nat.mul_one, List.take_of_length_le (by simp), ADI hx]
theorem Zl {m : Nat} (h : m ≤ 8192) : IntKind.wrap .u32 (IntKind.wrap .i64 ((8 : Int) * ((m : Nat) : Int))) = ((8 * m : Nat) : Int) := by
 rw [show (8 : Int) * ((m : Nat) : Int) = ((8 * m : Nat) : Int) by omega, FV (by omega), wrap_u32, Nat.mod_eq_of_lt (by omega)]
theorem ALZ (k : ByteArray) (i : Nat) : xK k i < 4294967296 := Nat.mod_lt _ (by decide)
theorem AFm (k : ByteArray) (i : Nat) : IntKind.wrap .u32 (((xK k i : Nat) : Int) + ((AFR k : Nat) : Int)) = ((xK k (i + 1) : Nat) : Int) := by
 rw [← Int.natCast_add, wrap_u32]
 congr 1
 unfold xK
 rw [Nat.mod_add_mod, Nat.add_mul, Nat.one_mul, Nat.add_assoc]
theorem AFS (k : ByteArray) : xK k 0 = AFK k := by unfold xK; rw [Nat.zero_mul, Nat.add_zero, Nat.mod_eq_of_lt (AIU k)]
theorem AER (x m : Nat) : ((x : Nat) : Int).tmod ((m : Nat) : Int) = ((x % m : Nat) : Int) := (Int.ofNat_tmod x m).symm
theorem AFf (x : Nat) : ((x : Nat) : Int).tdiv (8 : Int) = ((x / 8 : Nat) : Int) := (Int.ofNat_tdiv x 8).symm
theorem AFw (x : Nat) : ((x : Nat) : Int).tmod (8 : Int) = ((x % 8 : Nat) : Int) := (Int.ofNat_tmod x 8).symm
theorem ACu (x : Nat) : min (((x % 8 : Nat) : Int).toNat) (IntKind.bits .u8) = x % 8 := by
 rw [Int.toNat_natCast]
 show min (x % 8) 8 = _
 omega
theorem AJ1 {c j : Nat} (hc : c < 256) : (OU .u8 (((c : Nat) : Int).fdiv ((2 : Int) ^ j)) (1 : Int) == (0 : Int)) = !(c.testBit j) := by
 have h1 : c / 2 ^ j < 256 := Nat.lt_of_le_of_lt (Nat.div_le_self _ _) hc
 rw [Mh, show (1 : Int) = ((1 : Nat) : Int) from rfl, AHM h1 (by decide), Nat.and_one_is_mod, Nat.testBit_eq_decide_div_mod_eq]
 generalize c / 2 ^ j = y
 rcases Nat.mod_two_eq_zero_or_one y with h | h <;> rw [h] <;> rfl
theorem AKt {c j : Nat} (hc : c < 256) (hj : j < 8) : bOr .u8 ((c : Nat) : Int) (IntKind.wrap .u8 ((1 : Int) * ((2 : Int) ^ j))) = ((c ||| 2 ^ j : Nat) : Int) := by
 have h1 : 2 ^ j < 256 := by have : 2 ^ j < 2 ^ 8 := Nat.pow_lt_pow_right (by decide) hj; simpa using this
 have e : (1 : Int) * ((2 : Int) ^ j) = ((2 ^ j : Nat) : Int) := by rw [Int.one_mul, Int.natCast_pow]; rfl
 rw [e, wrap_u8, Nat.mod_eq_of_lt h1, AKL hc h1]
end Go.Lf

/-
 Contracts: a key's hash; filters (chapter 6).
-/
set_option maxRecDepth 100000
set_option linter.unusedVariables false
set_option linter.unusedSimpArgs false
namespace Go.Lf.G
open Go
theorem AG9 {k : ByteArray} {i : Nat} (hi : i < k.size) : ∃ c, k.data.toList[i]? = some c := by
 have : i < k.data.toList.length := by simpa using hi
 exact ⟨_, List.getElem?_eq_getElem this⟩
theorem AFO {A : Amb} {h : Heap} {key : ByteArray} {R : Value → Heap → Prop} (hk : key.size ≤ 1099511627776) (H : R (.tuple #[.int .u32 (AFK key : Int), .int .u32 (AFR key : Int)]) h) : AA A P IY #[.string key] h R := by
 refine Y9 ?_
 unfold NI
 refine Loop.rule (fun m x hh => ∃ i : Nat, x = (((PS (key.data.toList.take i)).1 : Int), ((PS (key.data.toList.take i)).2 : Int), (i : Int), ()) ∧ hh = h ∧ m = key.size - i ∧ i ≤ key.size) ?_ ⟨0, rfl, rfl, rfl, by omega⟩
 rintro K m _ hh ⟨i, rfl, e, rfl, hi⟩ hK
 subst e
 obtain ⟨l1, l2⟩ := ADL (key.data.toList.take i)
 refine PIf.intro (fun hq => ?_) (fun hq => ?_)
 ·have hil : i < key.size := by simpa using hq
  obtain ⟨c, hc⟩ := AG9 hil
  have hc256 : c.toNat < 256 := c.toNat_lt
  refine ⟨⟨by dsimp only; omega, by dsimp only; omega⟩, ⟨by dsimp only; omega, by dsimp only; omega⟩, ?_⟩
  dsimp only
  rw [NZ hc, ALa l1 hc256, ALT l2 hc256, AR (by omega)]
  refine hK (key.size - (i + 1)) _ _ (by omega) ⟨i + 1, ?_, rfl, rfl, hil⟩
  rw [List.take_add_one, hc, Option.toList_some, WQ]
 ·have hil : i = key.size := by simp at hq; omega
  have e : key.data.toList.take i = key.data.toList := List.take_of_length_le (by simp [hil])
  dsimp only
  rw [e] at l1 l2 ⊢
  have : bOr .u32 (((PS key.data.toList).2 : Nat) : Int) (1 : Int) = ((AFR key : Nat) : Int) := ALD l2 (b := 1) (by decide)
  rw [this]
  exact H
theorem Rq {f : ByteArray} : sEq f (⟨#[]⟩ : ByteArray) = decide (bl f = []) := by
 rw [Bool.eq_iff_iff, BR]
 constructor
 ·intro h
  have h := of_decide_eq_true h
  subst h; rfl
 ·intro h
  have h := of_decide_eq_true h
  cases f with
  | mk d =>
   have : d = #[] := by apply Array.toList_inj.1; exact h
   rw [this]; rfl
theorem AKf {f : ByteArray} {i : Nat} {c : UInt8} (h : (bl f)[i]? = some c) : f.data.toList[i]? = some c := h
theorem AHg {A : Amb} {h : Heap} {f key : ByteArray} {R : Value → Heap → Prop} (hk : key.size ≤ 1099511627776) (H : R (.bool (XL (bl f) key)) h) : AA A P JR #[.string f, .string key] h R := by
 refine ABV ?_
 unfold Pg
 refine Join.mk fun K hK => ?_
 have hsz := Bz f
 refine PIf.intro (fun hq => ?_) (fun hq => ?_)
 ·refine hK _ _ (PIf.yes rfl ?_)
  rw [Rq, decide_eq_true_iff] at hq
  rw [hq] at H
  exact H
 ·refine hK _ _ ?_
  rw [Rq, decide_eq_false_iff_not] at hq
  refine PIf.intro (fun hl => ?_) (fun hl => ?_)
  ·have hl' : ¬ (bl f).length ≤ 8192 := by simp at hl; omega
   have : XL (bl f) key = false := by unfold XL; rw [decide_eq_false hl', Bool.and_false, Bool.false_and]
   rw [this] at H
   exact H
  ·have hl' : f.size ≤ 8192 := by simp at hl; omega
   have hpos : 1 ≤ f.size := by
    rw [← hsz]
    exact List.length_pos_iff.2 hq
   refine AFO hk ⟨_, _, rfl, ?_⟩
   refine Loop.rule (fun m x hh => ∃ i : Nat, x = (((xK key i : Nat) : Int), (i : Int), ()) ∧ hh = h ∧ m = 4 - i ∧ i ≤ 4 ∧ ∀ j, j < i → OZ (bl f) (prb key f.size j) = true) ?_ ⟨0, by rw [AFS]; rfl, rfl, rfl, by omega, fun j hj => by omega⟩
   rintro K1 m _ hh ⟨i, rfl, e, rfl, hi, hall⟩ hK1
   subst e
   dsimp only
   refine PIf.intro (fun hq1 => ?_) (fun hq1 => ?_)
   ·have hi4 : i < 4 := by simp at hq1; omega
    have hlt : prb key f.size i < 8 * f.size := AEh hpos
    have hx := ALZ key i
    rw [Zl hl', AER]
    have hp : xK key i % (8 * f.size) = prb key f.size i := rfl
    rw [hp, AFf, AFw, ACu, wrap_u32, Nat.mod_eq_of_lt (show prb key f.size i / 8 < 4294967296 by omega)]
    have hb8 : prb key f.size i / 8 < (bl f).length := by rw [hsz]; omega
    have hc : (bl f)[prb key f.size i / 8]? = some (bl f)[prb key f.size i / 8] := List.getElem?_eq_getElem hb8
    obtain ⟨c, hc⟩ : ∃ c, (bl f)[prb key f.size i / 8]? = some c := ⟨_, hc⟩
    rw [NZ (AKf hc), AJ1 c.toNat_lt]
    have hbit : OZ (bl f) (prb key f.size i) = c.toNat.testBit (prb key f.size i % 8) := by unfold OZ; rw [hc]; rfl
    refine ⟨by omega, ⟨by omega, by omega⟩, by omega, ?_⟩
    rw [← hbit]
    refine PIf.intro (fun hb => ?_) (fun hb => ?_)
    ·have hb : OZ (bl f) (prb key f.size i) = false := by simpa using hb
     have : XL (bl f) key = false := by
      unfold XL AJM
      rw [hsz]
      have : ((List.range 4).all fun i => OZ (bl f) (prb key f.size i)) = false := by
       rw [List.all_eq_false]
       exact ⟨i, List.mem_range.2 hi4, by simp [hb]⟩
      simp [this]
     rw [this] at H
     exact H
    ·have hb : OZ (bl f) (prb key f.size i) = true := by simpa using hb
     rw [AFm, AR (by omega)]
     refine hK1 (4 - (i + 1)) _ _ (by omega) ⟨i + 1, rfl, rfl, rfl, hi4, fun j hj => ?_⟩
     by_cases hji : j = i
     ·subst hji; exact hb
     ·exact hall j (by omega)
   ·have hi4 : i = 4 := by simp at hq1; omega
    have : XL (bl f) key = true := by
     unfold XL AJM
     rw [hsz, Bool.and_eq_true, Bool.and_eq_true, decide_eq_true_iff, decide_eq_true_iff, List.all_eq_true]
     exact ⟨⟨hq, hl'⟩, fun j hj => hall j (by rw [hi4]; exact List.mem_range.1 hj)⟩
    rw [this] at H
    exact H
theorem AJW : (P.info? Cx).map (fun i => (i.zero, i.size, i.bytes)) = some (some (.int .u8 0), 1, 1) := by kernel_rfl
theorem Zz : P.underlying Cq = some (.slice Cx) := by kernel_rfl
theorem AKp : P.underlying Cx = some (.int .u8) := by kernel_rfl
theorem AJj : P.underlying Ad = some .string := by kernel_rfl
theorem AJi {A : Amb} {h : Heap} {s : Sl} {ks : List ByteArray} {m : Nat} {R : Value → Heap → Prop} (hv : View EC h s ks) (hkl : ∀ k ∈ ks, k.size ≤ 1099511627776) (hm : 1 ≤ m) (h8 : m ≤ 8192) (hkm : ks.length ≤ 1099511627776) (hb : ∀ b, s.blk = some b → b < h.size)
  (H : ∀ h', Ext h h' → R (.tuple #[.string (Aa (Wp ks m)), .int .i64 0]) h') : AA A P IJ #[.slice s.p s.len s.cap, .int .i64 (m : Int)] h R := by
 refine Yu ?_
 unfold Nw
 refine Join.mk fun K hK => ?_
 refine PIf.no (by simp; omega) ?_
 refine hK _ _ (PIf.no (by simp; omega) ?_)
 refine AJh (E := IC) (x0 := 0) (v := .int .u8 0) Zz AJW rfl rfl rfl (by omega) (by simp only [maxLen]; omega) fun h1 o1 x1 hs1 => ?_
 have hrep : List.replicate m (0 : UInt8) = Jo m := rfl
 rw [hrep] at o1
 dsimp only
 refine Loop.rule (fun n x hh => ∃ i : Nat, x = ((i : Int), ()) ∧ n = ks.length - i ∧ i ≤ ks.length ∧ Mod (fun c => c = h.size) h1 hh ∧ Own IC Cx hh ⟨some ⟨h.size, 0, none⟩, m, m⟩ ((ks.take i).foldl (Sw m) (Jo m))) ?_ ⟨0, rfl, rfl, by omega, Mod.refl, o1⟩
 rintro K1 n _ hh ⟨i, rfl, rfl, hi, mm, oo⟩ hK1
 have hv1 : View EC hh s ks := (hv.ext x1).mod mm fun b hbb => by have := hb b hbb; omega
 dsimp only
 refine PIf.intro (fun hq => ?_) (fun hq => ?_)
 ·have hil : i < ks.length := by rw [hv.len] at hq; simp at hq; omega
  have hki : ks[i]? = some ks[i] := List.getElem?_eq_getElem hil
  refine hv1.idx hki fun a ha hc => ?_
  refine AC.mk hc.str ?_
  refine AFO (hkl _ (List.getElem_mem hil)) ⟨_, _, rfl, ?_⟩
  have htake : ks.take (i + 1) = ks.take i ++ [ks[i]] := by rw [List.take_add_one, hki]; rfl
  generalize ks[i] = k at hki htake
  have hlen : ((ks.take i).foldl (Sw m) (Jo m)).length = m := (Pq hm (ks.take i) (Jo m) (by simp [Jo])).1
  generalize hf0 : (ks.take i).foldl (Sw m) (Jo m) = f0 at oo hlen
  refine Loop.rule (fun n x h5 => ∃ j : Nat, x = (((xK k j : Nat) : Int), (j : Int), ()) ∧ n = 4 - j ∧ j ≤ 4 ∧ Mod (fun c => c = h.size) h1 h5 ∧ Own IC Cx h5 ⟨some ⟨h.size, 0, none⟩, m, m⟩ ((List.range j).foldl (fun f i => VM f (prb k m i)) f0)) ?_ ⟨0, by rw [AFS]; rfl, rfl, by omega, mm, oo⟩
  rintro K2 n _ h5 ⟨j, rfl, rfl, hj, m5, o5⟩ hK2
  dsimp only
  refine PIf.intro (fun hq1 => ?_) (fun hq1 => ?_)
  ·have hj4 : j < 4 := by simp at hq1; omega
   have hlt : prb k m j < 8 * m := AEh hm
   have hp : xK k j % (8 * m) = prb k m j := rfl
   rw [Zl h8, AER, hp, AFf, AFw, ACu, wrap_u32, Nat.mod_eq_of_lt (show prb k m j / 8 < 4294967296 by omega)]
   have hfl : ((List.range j).foldl (fun f i => VM f (prb k m i)) f0).length = m := (PQ hm _ f0 hlen).1
   generalize hf1 : (List.range j).foldl (fun f i => VM f (prb k m i)) f0 = f1 at o5 hfl
   have hget : f1[prb k m j / 8]? = some f1[prb k m j / 8] := List.getElem?_eq_getElem (by omega)
   obtain ⟨c, hc⟩ : ∃ c, f1[prb k m j / 8]? = some c := ⟨_, hget⟩
   refine ⟨by omega, ?_⟩
   refine o5.view.idx hc fun a1 ha1 hc1 => ?_
   rw [Int.toNat_natCast]
   refine AZ.mk hc1.byte ⟨by omega, ?_⟩
   refine o5.view.idx hc fun a2 ha2 hc2 => ?_
   have hor := AKt c.toNat_lt (show prb k m j % 8 < 8 by omega)
   rw [hor]
   have hlt2 := AKJ c.toNat_lt (show prb k m j % 8 < 8 by omega)
   rw [AFm, AR (by omega), ← add_zero (a2.add (prb k m j / 8 * 1))]
   refine Own.store (E := IC) (i := prb k m j / 8) (j := 0) (x := c) (x' := G6 (c.toNat ||| 2 ^ (prb k m j % 8))) (v := .int .u8 ((c.toNat ||| 2 ^ (prb k m j % 8) : Nat) : Int)) o5 hc (by show [Value.int .u8 _] = _; rw [Hw hlt2]; rfl) (by decide) (fun h6 o6 m6 hs6 => ?_) a2 ha2
   refine hK2 (4 - (j + 1)) _ _ (by omega) ⟨j + 1, rfl, rfl, hj4, m5.trans (m6.weak fun b _ hb => ?_), ?_⟩
   ·simp [Sl.blk] at hb; exact hb.symm
   ·rw [List.range_succ, List.foldl_append, hf1, List.foldl_cons, List.foldl_nil]
    unfold VM
    rw [hc]
    exact o6
  ·have hj4 : j = 4 := by simp at hq1; omega
   subst hj4
   rw [AR (by omega)]
   refine hK1 (ks.length - (i + 1)) _ _ (by omega) ⟨i + 1, rfl, rfl, hil, m5, ?_⟩
   rw [htake, List.foldl_append, hf0]
   exact o5
 ·have hil : i = ks.length := by rw [hv.len] at hq; simp at hq; omega
  have e : ks.take i = ks := by rw [hil]; simp
  rw [e] at oo
  have hfin : ((ks.foldl (Sw m) (Jo m))) = Wp ks m := rfl
  rw [hfin] at oo
  refine MX Zz AKp AJj (s := ⟨some ⟨h.size, 0, none⟩, m, m⟩) (l := Wp ks m) oo.view ⟨_, rfl, ?_⟩
  exact H hh ⟨by have := x1.size; have := mm.size; omega, fun b hb _ => (mm.get b (by have := x1.size; omega) (by omega)).trans (x1.get b hb (by simp))⟩
end Go.Lf.G

/-
 Pairs as bytes, blocks of pairs, a table's bytes (chapter 7): plain law.
-/
set_option maxRecDepth 100000
set_option linter.unusedVariables false
set_option linter.unusedSimpArgs false
namespace Go.Lf
open Go
structure Ih (p : Pr) : Prop where
 key : p.key.size ≠ 0
 keyMost : p.key.size ≤ 64
 valMost : p.val.size ≤ 8192
 gone : p.gone = true → p.val.size = 0
def Fy (p : Pr) : Nat := if p.gone then 0 else p.val.size + 1
def F3 (p : Pr) : List UInt8 := Cm (bl p.key) ++ (CG (Fy p) ++ bl p.val)
abbrev Ar (l : List Pr) : List UInt8 := l.flatMap F3
theorem MC {s : ByteArray} (h : s.size = 0) : bl s = [] := List.eq_nil_of_length_eq_zero (by rw [Bz]; exact h)
theorem Zn {p : Pr} (h : Ih p) (t : List UInt8) : WT ⟨F3 p ++ t, false⟩ = (bl p.key, ⟨CG (Fy p) ++ bl p.val ++ t, false⟩) := by
 have h1 := h.keyMost
 have e : F3 p ++ t = Cm (bl p.key) ++ (CG (Fy p) ++ bl p.val ++ t) := by simp [F3, List.append_assoc]
 rw [e]
 exact Tm (by rw [Bz]; omega) _
theorem TR {p : Pr} (h : Ih p) : Fy p ≤ 8193 := by
 have := h.valMost
 unfold Fy; split <;> omega
theorem ACW {p : Pr} (h : Ih p) (t : List UInt8) : ACI 8193 ⟨CG (Fy p) ++ bl p.val ++ t, false⟩ = (Fy p, ⟨bl p.val ++ t, false⟩) := by
 rw [List.append_assoc]
 have := TR h
 exact IX (by omega) this _
theorem Zv {p : Pr} (h : Ih p) (t : List UInt8) : OC (Fy p - 1) ⟨bl p.val ++ t, false⟩ = (bl p.val, ⟨t, false⟩) := by
 have e : Fy p - 1 = (bl p.val).length := by
  rw [Bz]
  unfold Fy
  split
  ·rename_i hg; rw [h.gone hg]
  ·omega
 rw [e]
 exact AAW _ _
theorem MV {p : Pr} (h : Ih p) : 1 ≤ (F3 p).length ∧ (F3 p).length ≤ p.key.size + p.val.size + 20 := by
 have h1 := h.keyMost
 have h2 := h.valMost
 have h3 := Ai (n := (bl p.key).length) (by rw [Bz]; omega)
 have h4 := TR h
 have h5 := Ai (n := Fy p) (by omega)
 have h6 := h.key
 have e1 := Bz p.key
 have e2 := Bz p.val
 simp only [F3, Cm, List.length_append]
 omega
end Go.Lf

/-
 Contracts: pairs as bytes; batches.
-/
set_option maxRecDepth 100000
set_option linter.unusedVariables false
set_option linter.unusedSimpArgs false
namespace Go.Lf.G
open Go
theorem G7 : Q5 P AP AO Af.w 40 = true := by kernel_rfl
theorem AKA {A : Amb} {h : Heap} {b : Nat} {r : Rd} {R : Value → Heap → Prop} (hb : JX h b r) (H : R (.bool r.bad) h) : AA A P F6 #[BC b] h R := by
 refine RU ?_
 unfold Ia
 refine PIf.no rfl (atI ?_)
 exact AY.mk (AB hb rfl) H
theorem QE {A : Amb} {h : Heap} {s : ByteArray} {R : Value → Heap → Prop} (hl : s.size ≤ 1099511627776) (H : ∀ h', Ext h h' → R (.string (Aa (Cm (bl s)))) h') : AA A P Dx #[.string s] h R := by
 have := ADS (A := A) (h := h) (l := bl s) (R := R) (by rw [Bz]; exact hl) H
 rwa [IL] at this
theorem AGC {n : Nat} (h : n ≤ 1099511627776) : IntKind.wrap .u64 ((IntKind.wrap .u64 (n : Int)) + (1 : Int)) = ((n + 1 : Nat) : Int) := by
 rw [DD (by omega), show ((n : Int) + 1) = ((n + 1 : Nat) : Int) by omega, DD (by omega)]
theorem UN {s : ByteArray} (h : s.size = 0) : s = ⟨#[]⟩ := by
 have := IL s
 rw [← this, show s.data.toList = [] from MC h]; rfl
theorem Ab {h h' : Heap} {b : Nat} {cs : Array Value} {T : TypeId} (x : Ext h h') (hb : h[b]? = some (.cells cs T (0, 0))) : h'[b]? = some (.cells cs T (0, 0)) := x.blk hb (fun h => h)
theorem AIB {A : Amb} {h : Heap} {x : Pr} {R : Value → Heap → Prop} (ho : Ih x) (H : ∀ h', Ext h h' → R (.string (Aa (F3 x))) h') : AA A P IM #[x.agg] h R := by
 obtain ⟨k, v, g⟩ := x
 have hk := ho.keyMost
 have hv := ho.valMost
 have hg := ho.gone
 dsimp only at hk hv hg
 show AA A P IM #[.agg #[.string k, .string v, .bool g]] h R
 refine ZO ?_
 unfold Nz
 refine New.mk fun h1 _ hb1 x1 hs1 => ?_
 refine AY.mk (AB hb1 rfl) ?_
 have l1 := Ai (n := (bl k).length) (by rw [Bz]; omega)
 have lk := Bz k
 have lv := Bz v
 refine PIf.intro (fun hq => ?_) (fun hq => ?_)
 ·subst hq
  refine AC.mk (AJ hb1 rfl) ?_
  refine QE (by omega) fun h2 x2 => ⟨_, rfl, ?_⟩
  refine F9 (n := 0) (by omega) fun h3 x3 => ⟨_, rfl, ?_⟩
  have l2 := Ai (n := 0) (by omega)
  refine ⟨by rw [AV, AV, max_i64]; simp only [Cm, List.length_append]; omega, ?_⟩
  rw [CQ]
  have e : F3 ⟨k, v, true⟩ = Cm (bl k) ++ CG 0 := by
   unfold F3 Fy
   rw [MC (hg rfl)]
   simp
  rw [← e]
  exact H _ ((x1.trans x2).trans x3)
 ·subst hq
  refine AC.mk (AJ hb1 rfl) ?_
  refine QE (by omega) fun h2 x2 => ⟨_, rfl, ?_⟩
  have hb2 := Ab x2 hb1
  refine AC.mk (AB hb2 rfl) ⟨AB hb1 rfl, ?_⟩
  rw [AGC (by omega)]
  refine F9 (by omega) fun h3 x3 => ⟨_, rfl, ?_⟩
  have hb3 := Ab x3 hb2
  have l2 := Ai (n := v.size + 1) (by omega)
  refine ⟨by rw [AV, AV, max_i64]; simp only [Cm, List.length_append]; omega, ?_⟩
  refine AC.mk (AB hb3 rfl) ⟨AB hb2 rfl, AB hb1 rfl, ?_, ?_⟩
  ·rw [CQ, AV, max_i64]; simp only [Cm, List.length_append]; omega
  ·rw [CQ]
   have e : Aa (Cm (bl k) ++ CG (v.size + 1)) ++ v = Aa (F3 ⟨k, v, false⟩) := by
    have : v = Aa (bl v) := (IL v).symm
    conv => lhs; arg 2; rw [this]
    rw [CQ]
    unfold F3 Fy
    simp [List.append_assoc]
   rw [e]
   exact H _ ((x1.trans x2).trans x3)
theorem AHf {s : ByteArray} (h : s.size ≠ 0) : sEq s (⟨#[]⟩ : ByteArray) = false := by
 rw [Rq, decide_eq_false_iff_not]
 intro e
 have := Bz s
 rw [e] at this
 exact h this.symm
theorem ADT {n : Nat} (h : n ≤ 100000) : (if ((IntKind.wrap .i64 (((n : Nat) : Int) - (1 : Int))) : Int) > 0 then (IntKind.wrap .i64 (((n : Nat) : Int) - (1 : Int))) else 0) = ((n - 1 : Nat) : Int) := by
 rw [wrap_i64 (by omega) (by omega)]
 split <;> omega
theorem Tv {l : List Pr} (h : ∀ x ∈ l, Ih x) : l.length ≤ (Ar l).length := by
 induction l with
 | nil => simp
 | cons x l ih =>
  have := (MV (h x List.mem_cons_self)).1
  have := ih fun y hy => h y (List.mem_cons_of_mem _ hy)
  simp only [Ar, List.flatMap_cons, List.length_append, List.length_cons] at this ⊢
  omega
theorem YC {A : Amb} {h : Heap} {l : List Pr} {R : Value → Heap → Prop} (ho : ∀ x ∈ l, Ih x) (hl : (Ar l).length < 1099511627776)
  (H : ∀ s h', Own Af AO h' s l → Ext h h' → (∀ b, s.blk = some b → h.size ≤ b) → R (.tuple #[.slice s.p s.len s.cap, .bool true]) h') : AA A P Fe #[.string (Aa (Ar l))] h R := by
 refine XW ?_
 unfold Ls
 refine SN fun h1 r1 x1 => ⟨_, rfl, ?_⟩
 have hpl := Tv ho
 refine Loop.rule (fun m x hh => ∃ (i : Nat) (s : Sl), x = (s, ()) ∧ m = l.length - i ∧ i ≤ l.length ∧ JX hh h.size ⟨Ar (l.drop i), false⟩ ∧ Ext h hh ∧ Own Af AO hh s (l.take i) ∧ ∀ b, s.blk = some b → h.size ≤ b) ?_ ⟨0, ⟨none, 0, 0⟩, rfl, rfl, by omega, r1, x1, Own.nil, fun b hb => by simp [Sl.blk] at hb⟩
 rintro K m _ hh ⟨i, s, rfl, rfl, hi, rd, xx, oo, hs⟩ hK
 dsimp only
 refine Vm rd ⟨_, rfl, ?_⟩
 by_cases hil : i < l.length
 ·have hx : l[i]? = some l[i] := List.getElem?_eq_getElem hil
  have hmem : l[i] ∈ l := List.getElem_mem hil
  have hd : l.drop i = l[i] :: l.drop (i + 1) := List.drop_eq_getElem_cons hil
  have ht : l.take (i + 1) = l.take i ++ [l[i]] := by rw [List.take_add_one, hx]; rfl
  generalize l[i] = x at hx hmem hd ht
  have hox := ho x hmem
  have hp : Ar (l.drop i) = F3 x ++ Ar (l.drop (i + 1)) := by rw [hd]; rfl
  have hlen : (F3 x ++ Ar (l.drop (i + 1))).length < 1099511627776 := by
   have e : Ar l = Ar (l.take i) ++ Ar (l.drop i) := by rw [← List.flatMap_append, List.take_append_drop]
   have := congrArg List.length e
   rw [hp, List.length_append] at this
   omega
  have hlx := MV hox
  rw [hp] at rd ⊢
  refine PIf.yes ?_ ?_
  ·unfold AJP
   have : (F3 x ++ Ar (l.drop (i + 1))) ≠ [] := by
    intro e
    have := congrArg List.length e
    simp only [List.length_append, List.length_nil] at this
    omega
   simp only [Bool.not_false, Bool.true_and, Bool.not_eq_true', List.isEmpty_eq_false_iff]
   exact this
  ·refine Pt rd hlen fun h2 r2 m2 => ⟨_, rfl, ?_⟩
   rw [Zn hox] at r2 ⊢
   dsimp only at r2 ⊢
   rw [IL]
   refine New.mk fun h5 _ hb5 x5 hs5 => ?_
   refine Store.mk hb5 (by simp) fun h6 hb6 m6 hs6 => ?_
   rw [Bw, Bw]
   refine Store.mk hb6 (by simp) fun h7 hb7 m7 hs7 => ?_
   refine Store.mk hb7 (by simp) fun h8 hb8 m8 hs8 => ?_
   have hbb : h.size < h2.size := by have := Am r2; exact this
   have hne : h.size ≠ h2.size := by omega
   have r8 : JX h8 h.size ⟨CG (Fy x) ++ bl x.val ++ Ar (l.drop (i + 1)), false⟩ := m8.blk (m7.blk (m6.blk (x5.blk r2 (fun h => h)) hne) hne) hne
   have hrl : (CG (Fy x) ++ bl x.val ++ Ar (l.drop (i + 1))).length ≤ 1099511627776 := by
    simp only [F3, List.length_append] at hlen ⊢; omega
   refine JK (most := 8193) r8 hrl (by decide) fun h9 r9 m9 => ⟨_, rfl, ?_⟩
   rw [ACW hox] at r9 ⊢
   dsimp only at r9 ⊢
   have hb9 : h9[h2.size]? = some (.cells #[.string x.key, .string ⟨#[]⟩, .bool false] AO (0, 0)) := m9.blk (by simpa using hb8) (Ne.symm hne)
   refine Join.mk fun K1 hK1 => ?_
   have hgn := TR hox
   have key : ∀ h10, JX h10 h.size ⟨bl x.val ++ Ar (l.drop (i + 1)), false⟩ → h10[h2.size]? = some (.cells #[.string x.key, .string ⟨#[]⟩, .bool x.gone] AO (0, 0)) → Mod (fun b => b = h.size ∨ b = h2.size) h2 h10 → K1 () h10 := by
    intro h10 r10 hb10 m10
    refine hK1 () h10 ?_
    rw [ADT (by omega)]
    refine V7 r10 fun h11 r11 m11 => ⟨_, rfl, ?_⟩
    rw [Zv hox] at r11 ⊢
    dsimp only at r11 ⊢
    rw [IL]
    have hb11 := m11.blk hb10 (Ne.symm hne)
    refine Store.mk hb11 (by simp) fun h12 hb12 m12 hs12 => ?_
    have r12 : JX h12 h.size ⟨Ar (l.drop (i + 1)), false⟩ := m12.blk r11 hne
    have hb12 : h12[h2.size]? = some (.cells #[.string x.key, .string x.val, .bool x.gone] AO (0, 0)) := by simpa using hb12
    refine Join.mk fun K2 hK2 => ?_
    refine AKA r12 ⟨_, rfl, ?_⟩
    refine PIf.no rfl ?_
    refine AC.mk (AJ hb12 rfl) ?_
    refine PIf.no (AHf hox.key) ?_
    refine AC.mk (AJ hb12 rfl) ?_
    have hkm := hox.keyMost
    refine hK2 _ _ (PIf.no (by simp; omega) ?_)
    refine AC.mk (AJ hb12 rfl) ?_
    refine AC.mk (AJ hb12 rfl) ?_
    refine AY.mk (AJ hb12 rfl) ?_
    have mA : Mod (fun b => b = h.size ∨ b = h2.size) hh h12 := by
     have a1 : Mod (fun b => b = h.size ∨ b = h2.size) hh h2 := m2.weak fun b _ hb => .inl hb
     exact ((a1.trans m10).trans (m11.weak fun b _ hb => .inl hb)).trans (m12.weak fun b _ hb => .inr hb)
    have hss : ∀ b, s.blk = some b → ¬ (b = h.size ∨ b = h2.size) := by
     intro b hb
     have hlt := oo.lt hb
     have h2le := m2.size
     rintro (rfl | rfl)
     ·exact oo.ne rd (by decide) hb
     ·omega
    refine New.append1 (E := Af) (x := x) rfl G7 (oo.mod mA hss) ?_ ?_ fun s' h15 o15 m15 hn15 hp15 => ?_
    ·rw [List.length_take]; omega
    ·simp only [maxLen]; rw [List.length_take]; omega
    ·rw [← ht] at o15
     have hxx : Ext h h12 := by
      refine ⟨by have := xx.size; have := mA.size; omega, fun b hb _ => ?_⟩
      have h2le := m2.size
      have := xx.size
      exact (mA.get b (by omega) (by omega)).trans (xx.get b hb (fun h => h))
     refine hK (l.length - (i + 1)) _ _ (by omega) ⟨i + 1, s', rfl, rfl, hil, ?_, ?_, o15, ?_⟩
     ·refine m15.blk r12 fun e => ?_
      have : Own Af AO h12 s (l.take i) := oo.mod mA hss
      exact this.ne r12 (by decide) e
     ·refine ⟨by have := hxx.size; have := m15.size; omega, fun b hb _ => ?_⟩
      have := hxx.size
      exact (m15.get b (by omega) (fun e => by have := hs b e; omega)).trans (hxx.get b hb (fun h => h))
     ·intro b hb
      rcases hn15 b hb with e | e
      ·exact hs b e
      ·have := hxx.size; omega
   have m29 : Mod (fun b => b = h.size ∨ b = h2.size) h2 h9 := by
    have a1 : Mod (fun b => b = h.size ∨ b = h2.size) h2 h5 := x5.mod
    exact (((a1.trans (m6.weak fun b _ hb => .inr hb)).trans (m7.weak fun b _ hb => .inr hb)).trans (m8.weak fun b _ hb => .inr hb)).trans (m9.weak fun b _ hb => .inl hb)
   refine PIf.intro (fun hq => ?_) (fun hq => ?_)
   ·have hg : x.gone = true := by
     unfold Fy at hq
     split at hq
     ·rename_i hg; exact hg
     ·simp at hq; omega
    refine Store.mk hb9 (by simp) fun h17 hb17 m17 hs17 => ?_
    refine key h17 (m17.blk r9 hne) (by rw [hg]; simpa using hb17) (m29.trans (m17.weak fun b _ hb => .inr hb))
   ·have hg : x.gone = false := by
     cases hg : x.gone with
     | false => rfl
     | true => unfold Fy at hq; rw [hg] at hq; simp at hq
    exact key h9 r9 (by rw [hg]; exact hb9) m29
 ·have hil : i = l.length := by omega
  have e1 : l.drop i = [] := by rw [hil]; simp
  have e2 : l.take i = l := by rw [hil]; simp
  rw [e1]
  rw [e2] at oo
  exact PIf.no rfl (H s hh oo xx hs)
end Go.Lf.G

/-
 Contracts: batches of changes as bytes.
-/
set_option maxRecDepth 100000
set_option linter.unusedVariables false
set_option linter.unusedSimpArgs false
namespace Go.Lf.G
open Go
def Ay (seg : Nat) (l : List Pr) : List UInt8 := CG seg ++ CG l.length ++ Ar l
theorem I6 {l : List Pr} (h : ∀ x ∈ l, Ih x) : (Ar l).length ≤ l.length * 8276 := by
 induction l with
 | nil => simp
 | cons x l ih =>
  have h0 := h x List.mem_cons_self
  have h1 := (MV h0).2
  have h2 := h0.keyMost
  have h3 := h0.valMost
  have := ih fun y hy => h y (List.mem_cons_of_mem _ hy)
  simp only [Ar, List.flatMap_cons, List.length_append, List.length_cons] at this ⊢
  omega
theorem AJb {l : List Pr} (h : ∀ x ∈ l, Ih x) (i : Nat) : ∀ x ∈ l.take i, Ih x := fun x hx => h x (List.mem_of_mem_take hx)
theorem AH3 {A : Amb} {h : Heap} {s : Sl} {l : List Pr} {seg : Nat} {R : Value → Heap → Prop} (hseg : seg ≤ 99999999) (hn : l.length ≤ 64) (ho : ∀ x ∈ l, Ih x) (hv : View Af h s l) (hb : ∀ b, s.blk = some b → b < h.size)
  (H : ∀ h', Ext h h' → R (.string (Aa (Ay seg l))) h') : AA A P LQ #[.int .i64 (seg : Int), .slice s.p s.len s.cap] h R := by
 refine AAk ?_
 unfold PL
 rw [DD (by omega)]
 refine F9 (by omega) fun h1 x1 => ⟨_, rfl, ?_⟩
 rw [hv.len, DD (by omega)]
 refine F9 (by omega) fun h2 x2 => ⟨_, rfl, ?_⟩
 have l1 := Ai (n := seg) (by omega)
 have l2 := Ai (n := l.length) (by omega)
 refine ⟨by rw [AV, AV, max_i64]; omega, ?_⟩
 rw [CQ]
 refine Loop.rule (fun m x hh => ∃ i : Nat, x = (Aa (CG seg ++ CG l.length ++ Ar (l.take i)), (i : Int), ()) ∧ m = l.length - i ∧ i ≤ l.length ∧ Ext h hh) ?_ ⟨0, by simp, rfl, by omega, x1.trans x2⟩
 rintro K m _ hh ⟨i, rfl, rfl, hi, xx⟩ hK
 dsimp only
 refine PIf.intro (fun hq => ?_) (fun hq => ?_)
 ·have hil : i < l.length := by simp at hq; omega
  have hx : l[i]? = some l[i] := List.getElem?_eq_getElem hil
  have ht : l.take (i + 1) = l.take i ++ [l[i]] := by rw [List.take_add_one, hx]; rfl
  have hox := ho _ (List.getElem_mem hil)
  generalize l[i] = x at hx ht hox
  have hk := hox.keyMost
  have hvm := hox.valMost
  have hg := hox.gone
  have lt := I6 (AJb ho i)
  rw [List.length_take] at lt
  have lk1 := Ai (n := (bl x.key).length) (by rw [Bz]; omega)
  have lk := Bz x.key
  have lv := Bz x.val
  refine Join.mk fun K1 hK1 => ?_
  obtain ⟨a, ha, hc⟩ := (hv.ext xx).cells i x hx
  refine Idx.mk ha hil ?_
  obtain ⟨c0, c1, c2⟩ := hc.pair
  rw [Int.toNat_natCast]
  refine AC.mk c0 (AC.mk c1 (AY.mk c2 ?_))
  refine New.pair fun b h5 hbe hb5 x5 hs5 => ?_
  refine AC.mk (AJ hb5 rfl) ?_
  refine QE (by omega) fun h9 x9 => ⟨_, rfl, ⟨by rw [AV, AV, max_i64]; simp only [Cm, List.length_append]; omega, ?_⟩⟩
  have hb9 := Ab x9 hb5
  refine AY.mk (AB hb9 rfl) ?_
  rw [CQ]
  have fin : ∀ h', Ext h9 h' → K1 (Aa (CG seg ++ CG l.length ++ Ar (l.take (i + 1))), ()) h' := by
   intro h' x'
   refine hK1 _ _ ?_
   dsimp only
   rw [AR (by omega)]
   exact hK (l.length - (i + 1)) _ _ (by omega) ⟨i + 1, rfl, rfl, hil, ((xx.trans x5).trans x9).trans x'⟩
  have hpl : Ar (l.take (i + 1)) = Ar (l.take i) ++ F3 x := by rw [ht]; simp [Ar]
  refine PIf.intro (fun hq1 => ?_) (fun hq1 => ?_)
  ·refine F9 (n := 0) (by omega) fun h10 x10 => ⟨_, rfl, ?_⟩
   have l3 := Ai (n := 0) (by omega)
   refine ⟨by rw [AV, AV, max_i64]; simp only [Cm, List.length_append]; omega, ?_⟩
   rw [CQ]
   have e : F3 x = Cm (bl x.key) ++ CG 0 := by
    unfold F3 Fy
    rw [hq1, MC (hg hq1)]
    simp
   have := fin h10 x10
   rw [hpl, e] at this
   simpa only [List.append_assoc] using this
  ·refine AC.mk (AB hb9 rfl) ?_
   rw [AGC (by omega)]
   refine F9 (by omega) fun h11 x11 => ⟨_, rfl, ?_⟩
   have l3 := Ai (n := x.val.size + 1) (by omega)
   refine AC.mk (AB (Ab x11 hb9) rfl) ⟨AB hb9 rfl, ?_, ?_, ?_⟩
   ·rw [AV, max_i64]; omega
   ·have e0 : x.val = Aa (bl x.val) := (IL _).symm
    rw [ByteArray.size_append, AV, AV, max_i64]; simp only [Cm, List.length_append]; omega
   ·have e : Aa (CG (x.val.size + 1)) ++ x.val = Aa (CG (Fy x) ++ bl x.val) := by
     conv => lhs; arg 2; rw [(IL x.val).symm]
     rw [CQ]
     unfold Fy
     rw [hq1]
     rfl
    rw [e, CQ]
    have := fin h11 x11
    rw [hpl] at this
    unfold F3 at this
    simpa only [List.append_assoc] using this
 ·have hil : i = l.length := by simp at hq; omega
  have e : l.take i = l := by rw [hil]; simp
  rw [e]
  exact H hh xx
theorem AE5 {A : Amb} {h : Heap} {l : List Pr} {seg : Nat} {R : Value → Heap → Prop} (hseg : seg ≤ 99999999) (hn : l.length ≤ 64) (ho : ∀ x ∈ l, Ih x)
  (H : ∀ s h', Own Af AO h' s l → Ext h h' → (∀ b, s.blk = some b → h.size ≤ b) → R (.tuple #[.int .i64 (seg : Int), .slice s.p s.len s.cap, .bool true]) h') : AA A P JG #[.string (Aa (Ay seg l))] h R := by
 refine XD ?_
 unfold Lu
 have l1 := Ai (n := seg) (by omega)
 have l2 := Ai (n := l.length) (by omega)
 have lm := I6 ho
 refine SN fun h1 r1 x1 => ⟨_, rfl, ?_⟩
 have e1 : Ay seg l = CG seg ++ (CG l.length ++ Ar l) := by simp [Ay, List.append_assoc]
 rw [e1] at r1
 refine JK (most := 99999999) r1 (by simp only [List.length_append]; omega) (by decide) fun h2 r2 m2 => ⟨_, rfl, ?_⟩
 rw [IX (by omega) (by omega)] at r2 ⊢
 dsimp only at r2 ⊢
 refine JK (most := 64) r2 (by simp only [List.length_append]; omega) (by decide) fun h3 r3 m3 => ⟨_, rfl, ?_⟩
 rw [IX (by omega) (by omega)] at r3 ⊢
 dsimp only at r3 ⊢
 have x3 : Ext h h3 := by
  refine ⟨by have := x1.size; have := m2.size; have := m3.size; omega, fun b hb _ => ?_⟩
  have := x1.size
  have := m2.size
  exact ((m3.get b (by omega) (by omega)).trans (m2.get b (by omega) (by omega))).trans (x1.get b hb (fun h => h))
 refine Loop.rule (fun m x hh => ∃ (i : Nat) (s : Sl), x = (s, (i : Int), ()) ∧ m = l.length - i ∧ i ≤ l.length ∧ JX hh h.size ⟨Ar (l.drop i), false⟩ ∧ Ext h hh ∧ Own Af AO hh s (l.take i) ∧ ∀ b, s.blk = some b → h.size ≤ b) ?_ ⟨0, ⟨none, 0, 0⟩, rfl, rfl, by omega, r3, x3, Own.nil, fun b hb => by simp [Sl.blk] at hb⟩
 rintro K m _ hh ⟨i, s, rfl, rfl, hi, rd, xx, oo, hs⟩ hK
 dsimp only
 refine PIf.intro (fun hq => ?_) (fun hq => ?_)
 ·have hil : i < l.length := by simp at hq; omega
  have hx : l[i]? = some l[i] := List.getElem?_eq_getElem hil
  have hmem : l[i] ∈ l := List.getElem_mem hil
  have hd : l.drop i = l[i] :: l.drop (i + 1) := List.drop_eq_getElem_cons hil
  have ht : l.take (i + 1) = l.take i ++ [l[i]] := by rw [List.take_add_one, hx]; rfl
  generalize l[i] = x at hx hmem hd ht
  have hox := ho x hmem
  have hp : Ar (l.drop i) = F3 x ++ Ar (l.drop (i + 1)) := by rw [hd]; rfl
  have hlen : (F3 x ++ Ar (l.drop (i + 1))).length < 1099511627776 := by
   have e : Ar l = Ar (l.take i) ++ Ar (l.drop i) := by rw [← List.flatMap_append, List.take_append_drop]
   have := congrArg List.length e
   rw [hp, List.length_append] at this
   omega
  rw [hp] at rd
  refine Pt rd hlen fun h2 r2 m2 => ⟨_, rfl, ?_⟩
  rw [Zn hox] at r2 ⊢
  dsimp only at r2 ⊢
  rw [IL]
  refine New.mk fun h5 _ hb5 x5 hs5 => ?_
  refine Store.mk hb5 (by simp) fun h6 hb6 m6 hs6 => ?_
  rw [Bw, Bw]
  refine Store.mk hb6 (by simp) fun h7 hb7 m7 hs7 => ?_
  refine Store.mk hb7 (by simp) fun h8 hb8 m8 hs8 => ?_
  have hbb : h.size < h2.size := by have := Am r2; exact this
  have hne : h.size ≠ h2.size := by omega
  have r8 : JX h8 h.size ⟨CG (Fy x) ++ bl x.val ++ Ar (l.drop (i + 1)), false⟩ := m8.blk (m7.blk (m6.blk (x5.blk r2 (fun h => h)) hne) hne) hne
  have hrl : (CG (Fy x) ++ bl x.val ++ Ar (l.drop (i + 1))).length ≤ 1099511627776 := by
   simp only [F3, List.length_append] at hlen ⊢; omega
  refine JK (most := 8193) r8 hrl (by decide) fun h9 r9 m9 => ⟨_, rfl, ?_⟩
  rw [ACW hox] at r9 ⊢
  dsimp only at r9 ⊢
  have hb9 : h9[h2.size]? = some (.cells #[.string x.key, .string ⟨#[]⟩, .bool false] AO (0, 0)) := m9.blk (by simpa using hb8) (Ne.symm hne)
  have hgn := TR hox
  have hg : (((Fy x : Nat) : Int) == (0 : Int)) = x.gone := by
   unfold Fy
   cases x.gone
   ·simp; omega
   ·simp
  rw [hg]
  refine Store.mk hb9 (by simp) fun h10 hb10 m10 hs10 => ?_
  rw [ADT (by omega)]
  have r10 : JX h10 h.size ⟨bl x.val ++ Ar (l.drop (i + 1)), false⟩ := m10.blk r9 hne
  refine V7 r10 fun h11 r11 m11 => ⟨_, rfl, ?_⟩
  rw [Zv hox] at r11 ⊢
  dsimp only at r11 ⊢
  rw [IL]
  have hb11 := m11.blk hb10 (Ne.symm hne)
  refine Store.mk hb11 (by simp) fun h12 hb12 m12 hs12 => ?_
  have r12 : JX h12 h.size ⟨Ar (l.drop (i + 1)), false⟩ := m12.blk r11 hne
  have hb12 : h12[h2.size]? = some (.cells #[.string x.key, .string x.val, .bool x.gone] AO (0, 0)) := by simpa using hb12
  refine AC.mk (AJ hb12 rfl) ?_
  refine AC.mk (AJ hb12 rfl) ?_
  refine AY.mk (AJ hb12 rfl) ?_
  have mA : Mod (fun b => b = h.size ∨ b = h2.size) hh h12 := by
   have a1 : Mod (fun b => b = h.size ∨ b = h2.size) hh h2 := m2.weak fun b _ hb => .inl hb
   have a2 : Mod (fun b => b = h.size ∨ b = h2.size) h2 h5 := x5.mod
   exact ((((((((a1.trans a2).trans (m6.weak fun b _ hb => .inr hb)).trans (m7.weak fun b _ hb => .inr hb)).trans (m8.weak fun b _ hb => .inr hb)).trans (m9.weak fun b _ hb => .inl hb)).trans (m10.weak fun b _ hb => .inr hb)).trans (m11.weak fun b _ hb => .inl hb))).trans (m12.weak fun b _ hb => .inr hb)
  have hss : ∀ b, s.blk = some b → ¬ (b = h.size ∨ b = h2.size) := by
   intro b hb
   have hlt := oo.lt hb
   have h2le := m2.size
   rintro (rfl | rfl)
   ·exact oo.ne rd (by decide) hb
   ·omega
  refine New.append1 (E := Af) (x := x) rfl G7 (oo.mod mA hss) ?_ ?_ fun s' h15 o15 m15 hn15 hp15 => ?_
  ·rw [List.length_take]; omega
  ·simp only [maxLen]; rw [List.length_take]; omega
  ·rw [← ht] at o15
   have hxx : Ext h h12 := by
    refine ⟨by have := xx.size; have := mA.size; omega, fun b hb _ => ?_⟩
    have h2le := m2.size
    have := xx.size
    exact (mA.get b (by omega) (by omega)).trans (xx.get b hb (fun h => h))
   rw [AR (by omega)]
   refine hK (l.length - (i + 1)) _ _ (by omega) ⟨i + 1, s', rfl, rfl, hil, ?_, ?_, o15, ?_⟩
   ·refine m15.blk r12 fun e => ?_
    have : Own Af AO h12 s (l.take i) := oo.mod mA hss
    exact this.ne r12 (by decide) e
   ·refine ⟨by have := hxx.size; have := m15.size; omega, fun b hb _ => ?_⟩
    have := hxx.size
    exact (m15.get b (by omega) (fun e => by have := hs b e; omega)).trans (hxx.get b hb (fun h => h))
   ·intro b hb
    rcases hn15 b hb with e | e
    ·exact hs b e
    ·have := hxx.size; omega
 ·have hil : i = l.length := by simp at hq; omega
  have e1 : l.drop i = [] := by rw [hil]; simp
  have e2 : l.take i = l := by rw [hil]; simp
  rw [e1] at rd
  rw [e2] at oo
  refine Vm rd ⟨_, rfl, ?_⟩
  exact H s hh oo xx hs
end Go.Lf.G

/-
 A table's bytes (chapter 7): plain law: blocks of eight pairs, the foot.
-/
set_option maxRecDepth 100000
set_option linter.unusedVariables false
set_option linter.unusedSimpArgs false
namespace Go.Lf
open Go
def BQ (l : List Pr) (i : Nat) : List Pr := (l.drop (8 * i)).take 8
def BM (l : List Pr) : Nat := (l.length + 7) / 8
def H5 (l : List Pr) : List (List Pr) := (List.range (BM l)).map (BQ l)
def GA (l : List Pr) (i : Nat) : ByteArray := match l[i]? with | some p => p.key | none => ⟨#[]⟩
def Bd (l : List Pr) : List ByteArray := (List.range (BM l)).map fun i => GA l (8 * i)
def Qd (l : List Pr) (f : List UInt8) : List UInt8 := CG (BM l) ++ ((Bd l).flatMap fun k => Cm (bl k)) ++ (CG l.length ++ Cm f)
def framesT (l : List Pr) (f : List UInt8) : List (List UInt8) := (H5 l).map Ar ++ [Qd l f]
theorem Md {l : List Pr} {i : Nat} (h : i < BM l) : 1 ≤ (BQ l i).length ∧ (BQ l i).length ≤ 8 ∧ (i + 1 < BM l → (BQ l i).length = 8) := by
 unfold BQ BM at *
 rw [List.length_take, List.length_drop]
 omega
theorem Mo {l : List Pr} {i j : Nat} (hj : j < 8) : (BQ l i)[j]? = l[8 * i + j]? := by
 unfold BQ
 rw [List.getElem?_take, if_pos hj, List.getElem?_drop]
theorem ACy {l : List Pr} : ∀ i, l.take (8 * i) ++ BQ l i = l.take (8 * (i + 1)) := fun i => by
 unfold BQ
 rw [show 8 * (i + 1) = 8 * i + 8 by omega, List.take_add]
theorem Zf (l : List Pr) : ∀ n, ((List.range n).map (BQ l)).flatten = l.take (8 * n)
 | 0 => by simp
 | n + 1 => by rw [List.range_succ, List.map_append, List.flatten_append, Zf l n]; simpa using ACy n
theorem AGW (l : List Pr) : (H5 l).flatten = l := by
 unfold H5
 rw [Zf, List.take_of_length_le]
 unfold BM; omega
theorem Es (l : List Pr) : (H5 l).length = BM l := by simp [H5]
theorem FJ (l : List Pr) : (Bd l).length = BM l := by simp [Bd]
theorem ACV {l : List Pr} (h : l ≠ []) : 1 ≤ BM l := by
 have := List.length_pos_iff.2 h
 unfold BM; omega
structure WG (s : List UInt8) (l : List Pr) (f : List UInt8) : Prop where
 bytes : s = wraps (framesT l f)
 ne : l ≠ []
 ok : ∀ p ∈ l, Ih p
 inc : l.Pairwise fun p q => sLt p.key q.key = true
 flen : 1 ≤ f.length ∧ f.length ≤ 8192
 has : ∀ p ∈ l, XL f p.key = true
 many : l.length ≤ 100000
theorem Tv {l : List Pr} (h : ∀ p ∈ l, Ih p) : (Ar l).length ≤ l.length * 8276 := by
 induction l with
 | nil => simp
 | cons p l ih =>
  have h1 := (MV (h p (by simp))).2
  have h2 := ih fun q hq => h q (List.mem_cons_of_mem _ hq)
  have h3 := (h p (by simp)).keyMost
  have h4 := (h p (by simp)).valMost
  simp only [Ar, List.flatMap_cons, List.length_append, List.length_cons] at h2 ⊢
  omega
theorem LJ {l : List Pr} {i : Nat} {p : Pr} (h : p ∈ BQ l i) : p ∈ l := List.mem_of_mem_drop (List.mem_of_mem_take h)
theorem R4 {s : List UInt8} {l : List Pr} {f : List UInt8} (T : WG s l f) : (Qd l f).length ≤ 1048576 := by
 have hm := T.many
 have hf := T.flen.2
 have h1 := Ai (n := BM l) (by unfold BM; omega)
 have h2 := Ai (n := l.length) (by omega)
 have h3 := Ai (n := f.length) (by omega)
 have hk : ∀ k ∈ Bd l, k.size ≤ 64 := fun k hk => by
  obtain ⟨i, _, rfl⟩ := List.mem_map.1 hk
  unfold GA
  split
  ·rename_i p hp
   exact (T.ok p (List.mem_of_getElem? hp)).keyMost
  ·exact Nat.zero_le _
 have h4 : ∀ ks : List ByteArray, (∀ k ∈ ks, k.size ≤ 64) → (ks.flatMap fun k => Cm (bl k)).length ≤ ks.length * 65 := by
  intro ks
  induction ks with
  | nil => intro _; simp
  | cons k ks ih =>
   intro h
   have h5 := ih fun x hx => h x (List.mem_cons_of_mem _ hx)
   have h6 := h k (by simp)
   have h7 : (CG k.size).length = 1 := by rw [Io (by omega)]; rfl
   have h8 : (Cm (bl k)).length = 1 + k.size := by
    simp only [Cm, List.length_append, Bz, h7]
   simp only [List.flatMap_cons, List.length_append, List.length_cons, h8] at h5 ⊢
   omega
 have h9 := h4 (Bd l) hk
 rw [FJ] at h9
 have h10 : BM l ≤ 12501 := by unfold BM; omega
 have h11 : (Cm f).length = (CG f.length).length + f.length := by simp [Cm]
 simp only [Qd, List.length_append]
 omega
theorem KA {s : List UInt8} {l : List Pr} {f : List UInt8} (T : WG s l f) : ∀ r ∈ framesT l f, r.length ≤ 1048576 := fun r hr => by
 rcases List.mem_append.1 hr with hr | hr
 ·obtain ⟨b, hb, rfl⟩ := List.mem_map.1 hr
  obtain ⟨i, hi, rfl⟩ := List.mem_map.1 hb
  have h1 := Tv (l := BQ l i) fun p hp => T.ok p (LJ hp)
  have h2 := (Md (List.mem_range.1 hi)).2.1
  have : (BQ l i).length * 8276 ≤ 8 * 8276 := Nat.mul_le_mul_right _ h2
  omega
 ·rw [List.mem_singleton.1 hr]; exact R4 T
end Go.Lf

/-
 Functions that yield slices, ranged over (as L.lean has it of pairs).
-/
set_option maxRecDepth 100000
set_option linter.unusedVariables false
set_option linter.unusedSimpArgs false
namespace Go.Lf
open Go
def slV (s : Sl) : Value := .slice s.p s.len s.cap
def AKD (A : Amb) (P : Program) (yv : Value) (l : List Sl) (J : Nat → Bool → (Nat → Prop) → Heap → Prop) : Prop :=
 ∀ i x O hh, l[i]? = some x → J i true O hh → Eh A P yv #[slV x] hh fun v h' => ∃ g O', v = .bool g ∧ (∀ b, O' b → O b ∨ hh.size ≤ b) ∧ Mod O hh h' ∧ J (i + 1) g O' h'
def ACi (A : Amb) (P : Program) (fv : Value) (S : Nat → Prop) (h0 : Heap) (l : List Sl) : Prop :=
 (∀ b, S b → b < h0.size) ∧ ∃ f caps, fv = .func (.func f) #[] caps ∧ (∀ yv, (callFunc f (#[] ++ #[yv] ++ caps)).calc P = some (.enter f (#[] ++ #[yv] ++ caps))) ∧
  ∀ (h : Heap), (∀ b, S b → h[b]? = h0[b]?) → ∀ yv J O, I1 yv = true → (∀ b, S b → ¬ O b) → Body h J → AKD A P yv l J → J 0 true O h →
   AA A P f (#[] ++ #[yv] ++ caps) h fun v h' => v = .tuple #[] ∧ ∃ i g O', Mod O h h' ∧ (∀ b, O' b → O b ∨ h.size ≤ b) ∧ J i g O' h' ∧ (g = true → i = l.length) ∧ i ≤ l.length
theorem ACi.weak {A : Amb} {P : Program} {fv : Value} {S S' : Nat → Prop} {h0 h1 : Heap} {l : List Sl} (it : ACi A P fv S h0 l) (hS : ∀ b, S b → S' b) (hl : ∀ b, S' b → b < h1.size) (hh : ∀ b, S b → h1[b]? = h0[b]?) : ACi A P fv S' h1 l := by
 obtain ⟨_, f, caps, e, hc, H⟩ := it
 refine ⟨hl, f, caps, e, hc, fun h hS' yv J O hy hd => H h (fun b hb => (hS' b (hS b hb)).trans (hh b hb)) yv J O hy fun b hb => hd b (hS b hb)⟩
theorem ACi.one {A : Amb} {P : Program} {fv : Value} {S : Nat → Prop} {h0 : Heap} {l : List Sl} (it : ACi A P fv S h0 l) : I1 fv = true ∧ ABR fv ∧ Pi fv = false := by
 obtain ⟨_, f, caps, rfl, _⟩ := it
 exact ⟨rfl, by simp [ABR], rfl⟩
def AK7 (x : Sl) : TyA [.one .sl] := (x, ())
end Go.Lf

/-
 Functions that yield slices and touch nothing else, ranged over.
-/
set_option maxRecDepth 100000
set_option linter.unusedVariables false
set_option linter.unusedSimpArgs false
namespace Go.Lf
open Go
def AKI (A : Amb) (P : Program) (fv : Value) (S : Nat → Prop) (h0 : Heap) (l : List Sl) : Prop :=
 ∃ f caps, fv = .func (.func f) #[] caps ∧ (∀ yv, (callFunc f (#[] ++ #[yv] ++ caps)).calc P = some (.enter f (#[] ++ #[yv] ++ caps))) ∧
  ∀ (h : Heap) (yv : Value) (J : Nat → Bool → Heap → Prop), I1 yv = true → (∀ i g hh, J i g hh → ∀ b, S b → hh[b]? = h0[b]?) →
   (∀ i x hh, l[i]? = some x → J i true hh → Eh A P yv #[slV x] hh fun v h' => ∃ g, v = .bool g ∧ J (i + 1) g h') → J 0 true h →
   AA A P f (#[] ++ #[yv] ++ caps) h fun v h' => v = .tuple #[] ∧ ∃ i g, J i g h' ∧ (g = true → i = l.length) ∧ i ≤ l.length
theorem AKu {A : Amb} {P : Program} {fv : Value} {S : Nat → Prop} {h0 h : Heap} {l : List Sl} (it : AKI A P fv S h0 l)
  (Inv : Nat → Heap → Prop) {body : TyA [.one .sl] → Nat → Heap → (Heap → Prop) → (Option Nat → Heap → Prop) → Prop} {kn : Heap → Prop} {kj : Option Nat → Heap → Prop}
  (hS : ∀ i hh, Inv i hh → ∀ b, S b → hh[b]? = h0[b]?)
  (stable : ∀ i hh o, Inv i hh → hh[h.size]? = some (.deferred (some [])) → (∃ o', hh[h.size + 1]? = some (.loop o')) → Inv i (hh.setIfInBounds (h.size + 1) (.loop o)))
  (init : ∀ rec, Inv 0 ((h.push (.deferred (some []))).push (.loop rec)))
  (round : ∀ i x hh rec kn' kj', l[i]? = some x → Inv i hh → hh[h.size]? = some (.deferred (some [])) → hh[h.size + 1]? = some (.loop rec) → rec.state = .ready →
   (∀ h', Inv (i + 1) h' → h'[h.size]? = some (.deferred (some [])) → h'[h.size + 1]? = some (.loop { rec with state := .busy }) → kn' h') → body (AK7 x) (h.size + 1) hh kn' kj')
  (fin : ∀ h', Inv l.length h' → h'[h.size]? = some (.deferred (some [])) → kn h') : Qu A P fv [.one .sl] body h kn kj := by
 intro rec hst hpd hsz hy
 obtain ⟨f, caps, rfl, hc, H⟩ := it
 refine ⟨f, _, ?_, AA.mono (H ((h.push (.deferred (some []))).push (.loop rec)) (.func (.yield (h.size + 1)) #[] #[])
  (fun i g hh => Inv i hh ∧ g = true ∧ hh[h.size]? = some (.deferred (some [])) ∧ hh[h.size + 1]? = some (.loop rec)) rfl (fun i g hh hj => hS i hh hj.1) ?_ ?_) ?_⟩
 ·have hcv : (do let d ← Deferred.ofValue (.func (.func f) #[] caps) #[.func (.yield (h.size + 1)) #[] #[]]; invoke d.target d.args : Sem Next).calc P = (callFunc f (#[] ++ #[.func (.yield (h.size + 1)) #[] #[]] ++ caps)).calc P := rfl
  unfold Qg
  rw [hcv, hc]
 ·rintro i x hh hi ⟨hI, _, hdf, hl⟩
  refine hy (AK7 x) hh _ hl (round i x hh rec _ _ hi hI hdf hl hst ?_)
  intro h' hI' hdf' hl'
  have hlt : h.size + 1 < h'.size := Am hl'
  refine ⟨_, hl', true, rfl, stable _ _ _ hI' hdf' ⟨_, hl'⟩, rfl, ?_, ?_⟩
  ·rw [Array.getElem?_setIfInBounds_ne (by omega)]; exact hdf'
  ·rw [Di hlt]; cases rec; simp at hst hpd; simp [hst, hpd]
 ·refine ⟨init rec, rfl, ?_, ?_⟩
  ·rw [Array.getElem?_push_lt (by simp)]; simp
  ·have h9 : h.size + 1 = (h.push (.deferred (some []))).size := by simp
   rw [h9]; exact Array.getElem?_push_size
 ·rintro v h2 ⟨_, i, g, ⟨hI, rfl, hdf, hl⟩, hg, hil⟩
  refine ⟨rec, hl, by simp [hst], .inl ⟨hpd, fin _ ?_ ?_⟩⟩
  ·have := hg rfl
   subst this
   exact stable _ _ _ hI hdf ⟨_, hl⟩
  ·rw [Array.getElem?_setIfInBounds_ne (by omega)]; exact hdf
end Go.Lf

/-
 Contracts: strings.Builder; slices.Chunk.
-/
set_option maxRecDepth 100000
set_option linter.unusedVariables false
set_option linter.unusedSimpArgs false
namespace Go.Lf.G
open Go
def U8 (h : Heap) (c : Nat) : Prop := ∃ cs fz, h[c]? = some (.cells cs Cx fz)
def Bld (B : Nat) (h : Heap) (b : Nat) (l : List UInt8) : Prop := ∀ (A : Amb) (n : Nat), Lib.IsBuilderF Ce Cx B b (Lib.byteCells l) (A.at h n)
theorem AGD {A : Amb} {n B b : Nat} {h : Heap} {l : List UInt8} (H : Lib.IsBuilderF Ce Cx B b (Lib.byteCells l) (A.at h n)) : Bld B h b l := fun _ _ => H
theorem QZ {A : Amb} {h : Heap} {n B b : Nat} {w : World} (hB : B ≤ h.size) (hb : RowKit.Below B (A.at h n) w) (ho : Lib.OthersKept Cx (some b) (A.at h n) w) :
  w = A.at w.heap w.drawn ∧ Mod (fun c => c = b ∨ (B ≤ c ∧ U8 h c)) h w.heap := by
 obtain ⟨h1, h2, h3, h4, h5⟩ := hb
 refine ⟨?_, ⟨h4, fun c hc hs => ?_⟩⟩
 ·cases w
  simp only [Amb.at] at h1 h2 h3 ⊢
  subst h1 h2 h3
  rfl
 ·by_cases hcB : c < B
  ·exact h5 c hcB
  ·have hg : h[c]? = some h[c] := Array.getElem?_eq_getElem hc
   have h1 := ho c h[c] hg (by intro e; exact hs (.inl (Option.some.inj e))) (fun cs fz e => hs (.inr ⟨by omega, cs, fz, by rw [hg, e]⟩))
   rw [h1]; exact hg.symm
theorem Bld.mod {B b : Nat} {h h' : Heap} {l : List UInt8} {S : Nat → Prop} (H : Bld B h b l) (m : Mod S h h') (hb : ¬ S b) (hu : ∀ c, B ≤ c → U8 h c → ¬ S c) : Bld B h' b l := by
 intro A n
 have at_p : ∀ p, Lib.BuilderAtF Ce Cx B b p (Lib.byteCells l) (A.at h n) → Lib.BuilderAtF Ce Cx B b p (Lib.byteCells l) (A.at h' n) := by
  rintro p ⟨h1, v, h2, ⟨h3, h4⟩, h5⟩
  refine ⟨h1, v, m.blk h2 hb, ⟨h3, ?_⟩, h5⟩
  rcases h4 with h4 | ⟨g, cap, cur, fz, e, hg, hgb, rest⟩
  ·exact .inl h4
  ·exact .inr ⟨g, cap, cur, fz, e, hg, m.blk hgb (hu g hg ⟨cur, fz, hgb⟩), rest⟩
 rcases H A n with h1 | h1
 ·exact .inl (at_p _ h1)
 ·exact .inr (at_p _ h1)
theorem Bld.ext {B b : Nat} {h h' : Heap} {l : List UInt8} (H : Bld B h b l) (m : Ext h h') : Bld B h' b l := H.mod m (fun h => h) (fun _ _ _ h => h)
theorem Bld.cell {B b : Nat} {h : Heap} {l : List UInt8} (H : Bld B h b l) (A : Amb) : ∃ cs, h[b]? = some (.cells cs Ce (0, 0)) ∧ B ≤ b := by
 rcases H A 0 with ⟨h1, v, h2, _⟩ | ⟨h1, v, h2, _⟩ <;> exact ⟨_, h2, h1⟩
theorem AJO {B b : Nat} {h : Heap} (hb : h[b]? = some (.cells #[.pointer none, .slice none 0 0] Ce (0, 0))) (hB : B ≤ b) : Bld B h b [] := by
 intro A n
 exact .inl ⟨hB, _, hb, ⟨rfl, .inl ⟨rfl, rfl⟩⟩, by simp [Value.ownBlock]⟩
theorem Oy {A : Amb} {h : Heap} {B b : Nat} {l : List UInt8} {s : ByteArray} {R : Value → Heap → Prop} (hb : Bld B h b l) (hB : B ≤ h.size) (hl : l.length + s.size ≤ 1099511627776)
  (H : ∀ h', Bld B h' b (l ++ bl s) → Mod (fun c => c = b ∨ (B ≤ c ∧ U8 h c)) h h' → R (.tuple #[.int .i64 s.size, .nilIface]) h') : AA A P Cc #[BC b, .string s] h R := by
 intro n
 refine Calls.mono (Proofs.Any.Builder_WriteString_k Proofs.Tryz.lays166 Proofs.Tryz.extra105 B b (Lib.byteCells l) s (A.at h n) (hb A n) (by rw [Lib.byteCells_length]; omega) hB) ?_
 rintro e w' ⟨rfl, h1, h2, h3⟩
 obtain ⟨e1, m⟩ := QZ hB h2 h3
 refine ⟨_, rfl, w'.heap, w'.drawn, e1, H _ ?_ m⟩
 rw [Lib.strCells_eq, ← Lib.byteCells_append, e1] at h1
 exact AGD (A := A) (n := w'.drawn) (.inr h1)
theorem AEd {A : Amb} {h : Heap} {B b : Nat} {l : List UInt8} {R : Value → Heap → Prop} (hb : Bld B h b l) (hB : B ≤ h.size)
  (H : ∀ h', Bld B h' b l → Mod (fun c => c = b ∨ (B ≤ c ∧ U8 h c)) h h' → R (.string (Aa l)) h') : AA A P Ef #[BC b] h R := by
 intro n
 refine Calls.mono (Proofs.Any.Builder_String_any_k Proofs.Tryz.lays169 Proofs.Tryz.extra105 B b l (A.at h n) (hb A n) hB) ?_
 rintro e w' ⟨rfl, h1, h2, h3⟩
 obtain ⟨e1, m⟩ := QZ hB h2 h3
 refine ⟨_, rfl, w'.heap, w'.drawn, e1, H _ ?_ m⟩
 rw [e1] at h1
 exact AGD (A := A) (n := w'.drawn) h1
def Ld (s : Sl) (i : Nat) : Sl := ⟨Ao s.p (min (8 * i + 8) s.len) (8 * i) 3, min (8 * i + 8) s.len - 8 * i, min (8 * i + 8) s.len - 8 * i⟩
def chunks (s : Sl) : List Sl := (List.range ((s.len + 7) / 8)).map (Ld s)
theorem NP (s : Sl) : (chunks s).length = (s.len + 7) / 8 := by simp [chunks]
theorem Wy {s : Sl} {i : Nat} (h : i < (s.len + 7) / 8) : (chunks s)[i]? = some (Ld s i) := by simp [chunks, h]
theorem View.chunk {h : Heap} {s : Sl} {l : List Pr} (v : View Af h s l) {i : Nat} (hi : i < BM l) : View Af h (Ld s i) (BQ l i) := by
 have hl := v.len
 unfold BM at hi
 refine ⟨?_, Nat.le_refl _, fun j x hx => ?_⟩
 ·show min (8 * i + 8) s.len - 8 * i = (BQ l i).length
  unfold BQ
  rw [List.length_take, List.length_drop, hl]
  omega
 ·have hj : j < 8 := by
   have := (List.getElem?_eq_some_iff.1 hx).1
   unfold BQ at this
   rw [List.length_take] at this
   omega
  rw [Mo hj] at hx
  obtain ⟨a, ha, hc⟩ := v.cells _ _ hx
  have hjl := (List.getElem?_eq_some_iff.1 hx).1
  refine ⟨a.add (8 * i * 3), ?_, ?_⟩
  ·unfold Ld Ao
   simp only [ha]
   rw [if_neg (by omega)]
   rfl
  ·rw [add_add]
   have e : 8 * i * 3 + j * Af.w = (8 * i + j) * Af.w := by
    show 8 * i * 3 + j * 3 = (8 * i + j) * 3
    omega
   rw [e]; exact hc
theorem AGH {n i : Nat} (hn : n ≤ 1099511627776) (h : 8 * i < n) : IntKind.wrap .i64 (((8 * i : Nat) : Int) + (if ((((n - ((8 * i : Nat) : Int).toNat) : Nat) : Int) : Int) < (8 : Int) then (((n - ((8 * i : Nat) : Int).toNat) : Nat) : Int) else (8 : Int))) = ((min (8 * i + 8) n : Nat) : Int) := by
 rw [Int.toNat_natCast]
 split
 ·rw [wrap_i64 (by omega) (by omega)]; omega
 ·rw [wrap_i64 (by omega) (by omega)]; omega
abbrev AH0 : FuncId := Bc
theorem AIr {A : Amb} {h : Heap} {s : Sl} {R : Value → Heap → Prop} (hc : s.len ≤ s.cap) (hn : s.len ≤ 1099511627776)
  (H : ∀ fv h', Ext h h' → h'.size = h.size + 2 → h'[h.size]? = some (.cells #[.slice s.p s.len s.cap] AP (0, 0)) → h'[h.size + 1]? = some (.cells #[.int .i64 8] BO (0, 0)) →
   AKI A P fv (fun c => c = h.size ∨ c = h.size + 1) h' (chunks s) → R fv h') : AA A P Bq #[.slice s.p s.len s.cap, .int .i64 8] h R := by
 refine GN ?_
 unfold CU
 refine New.mk fun h1 _ hb1 x1 hs1 => ?_
 refine New.mk fun h2 _ hb2 x2 hs2 => ?_
 refine Join.mk fun K hK => ?_
 refine AZ.mk (AJ hb2 rfl) ?_
 refine PIf.no rfl (hK _ _ ?_)
 have hb1' := Ab x2 hb1
 rw [hs1] at hb2 ⊢
 refine H _ h2 (x1.trans x2) (by omega) hb1' hb2 ⟨AH0, #[BC h.size, BC (h.size + 1)], rfl, fun yv => by kernel_rfl, ?_⟩
 intro h0 yv J hy hJ hyield j0
 refine Fq ?_
 unfold CL
 refine Loop.rule (fun m x hh => ∃ i : Nat, x = (((8 * i : Nat) : Int), ()) ∧ m = (s.len + 7) / 8 - i ∧ i ≤ (s.len + 7) / 8 ∧ J i true hh) ?_ ⟨0, rfl, rfl, by omega, j0⟩
 rintro K m _ hh ⟨i, rfl, rfl, hi, hj⟩ hK
 have hA : hh[h.size]? = some (.cells #[.slice s.p s.len s.cap] AP (0, 0)) := (hJ _ _ _ hj _ (.inl rfl)).trans hb1'
 have hB : hh[h.size + 1]? = some (.cells #[.int .i64 8] BO (0, 0)) := (hJ _ _ _ hj _ (.inr rfl)).trans hb2
 refine atI (AQ.mk (AJ hA rfl) ?_)
 dsimp only
 refine PIf.intro (fun hq => ?_) (fun hq => ?_)
 ·have hil : 8 * i < s.len := by simp at hq; omega
  refine atI (AZ.mk (AJ hB rfl) ?_)
  refine atI (AQ.mk (AJ hA rfl) ⟨by omega, ?_⟩)
  refine atI (AQ.mk (AJ hA rfl) ?_)
  rw [AGH hn hil, Int.toNat_natCast, Int.toNat_natCast]
  refine ⟨by omega, by omega, by omega, ?_⟩
  have hc := Wy (s := s) (i := i) (by omega)
  have hy1 := hyield i _ hh hc hj
  simp only [slV, Ld] at hy1
  refine Eh.mono hy1 ?_
  rintro v h' ⟨g, rfl, hj'⟩
  refine ⟨g, rfl, ?_⟩
  cases g with
  | false => exact PIf.yes rfl ⟨rfl, i + 1, false, hj', (fun h => by cases h), by rw [NP]; omega⟩
  | true =>
   refine PIf.no rfl (atI ?_)
   have hB' : h'[h.size + 1]? = some (.cells #[.int .i64 8] BO (0, 0)) := (hJ _ _ _ hj' _ (.inr rfl)).trans hb2
   refine AZ.mk (AJ hB' rfl) ?_
   have e : IntKind.wrap .i64 (((8 * i : Nat) : Int) + (8 : Int)) = ((8 * (i + 1) : Nat) : Int) := by
    rw [wrap_i64 (by omega) (by omega)]; omega
   rw [e]
   exact hK ((s.len + 7) / 8 - (i + 1)) _ _ (by omega) ⟨i + 1, rfl, rfl, by omega, hj'⟩
 ·have hil : s.len ≤ 8 * i := by simp at hq; omega
  have : i = (s.len + 7) / 8 := by omega
  exact ⟨rfl, i, true, hj, fun _ => by rw [NP]; exact this, by rw [NP]; omega⟩
end Go.Lf.G

