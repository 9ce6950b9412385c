/-
 The skip list: how it lies, what is before a key.
-/
import Derived.Test.YtdmlhpjdmgaggaaGreatDoorLfM3ToM9
set_option linter.unusedVariables false
set_option linter.unusedSimpArgs false
set_option maxRecDepth 100000
namespace Go.Lf.G.M
open Go Go.Lf Go.Lf.G
structure CK where
 blk : Nat
 pr : Pr
 ht : Nat
def ptrs (nx : Nat → Option Addr) : List Value := (List.range 12).map fun i => .pointer (nx i)
def Dj (p : Pr) (nx : Nat → Option Addr) : Array Value := (([.string p.key, .string p.val, .bool p.gone] : List Value) ++ ptrs nx).toArray
def CW (nx : Nat → Option Addr) (n sz : Int) : Array Value := (([.string ⟨#[]⟩, .string ⟨#[]⟩, .bool false] : List Value) ++ ptrs nx ++ ([.int .i64 n, .int .i64 sz] : List Value)).toArray
theorem Az (nx : Nat → Option Addr) : (ptrs nx).length = 12 := by simp [ptrs]
theorem Od {nx : Nat → Option Addr} {i : Nat} (hi : i < 12) : (ptrs nx)[i]? = some (.pointer (nx i)) := by simp [ptrs, hi]
theorem WS {nx : Nat → Option Addr} {i : Nat} (v : Option Addr) : (ptrs nx).set i (.pointer v) = ptrs (fun k => if k = i then v else nx k) := by
 refine List.ext_getElem? fun k => ?_
 by_cases hk : k < 12
 ·rw [List.getElem?_set, Od hk, Od hk, Az]
  by_cases h : i = k
  ·subst h; simp [hk]
  ·simp [h, Ne.symm h]
 ·rw [List.getElem?_eq_none (by simp [Az]; omega), List.getElem?_eq_none (by simp [Az]; omega)]
theorem AIV {p : Pr} {nx : Nat → Option Addr} {i : Nat} (hi : i < 12) : (Dj p nx)[3 + i]? = some (.pointer (nx i)) := by
 simp only [Dj, List.getElem?_toArray]
 rw [List.getElem?_append_right (by simp)]
 simpa using Od hi
theorem AHd {nx : Nat → Option Addr} {n sz : Int} {i : Nat} (hi : i < 12) : (CW nx n sz)[3 + i]? = some (.pointer (nx i)) := by
 simp only [CW, List.getElem?_toArray]
 rw [List.append_assoc, List.getElem?_append_right (by simp), List.getElem?_append_left (by simp [Az]; omega)]
 simpa using Od hi
theorem XC {nx : Nat → Option Addr} {n sz : Int} : (CW nx n sz)[15]? = some (.int .i64 n) ∧ (CW nx n sz)[16]? = some (.int .i64 sz) := by
 simp only [CW, List.getElem?_toArray]
 constructor
 ·rw [List.getElem?_append_right (by simp [Az])]; simp [Az]
 ·rw [List.getElem?_append_right (by simp [Az])]; simp [Az]
theorem Mc {p : Pr} {nx : Nat → Option Addr} : (Dj p nx).size = 15 := by simp [Dj, Az]
theorem head_size {nx : Nat → Option Addr} {n sz : Int} : (CW nx n sz).size = 17 := by simp [CW, Az]
theorem ACz {p : Pr} {nx : Nat → Option Addr} {i : Nat} (v : Option Addr) : (Dj p nx).setIfInBounds (3 + i) (.pointer v) = Dj p (fun k => if k = i then v else nx k) := by
 apply Array.toList_inj.1
 rw [Array.toList_setIfInBounds]
 simp only [Dj, List.toList_toArray]
 rw [List.set_append_right _ _ (by simp), ← WS v]
 simp
theorem AHN {nx : Nat → Option Addr} {n sz : Int} {i : Nat} (hi : i < 12) (v : Option Addr) : (CW nx n sz).setIfInBounds (3 + i) (.pointer v) = CW (fun k => if k = i then v else nx k) n sz := by
 apply Array.toList_inj.1
 rw [Array.toList_setIfInBounds]
 simp only [CW, List.toList_toArray]
 rw [List.append_assoc, List.set_append_right _ _ (by simp), List.set_append_left _ _ (by simp [Az]; omega), ← WS v]
 simp
theorem AGn {nx : Nat → Option Addr} {n sz n' : Int} : (CW nx n sz).setIfInBounds 15 (.int .i64 n') = CW nx n' sz := by
 apply Array.toList_inj.1
 rw [Array.toList_setIfInBounds]
 simp only [CW, List.toList_toArray]
 rw [List.set_append_right _ _ (by simp [Az])]
 simp [Az]
theorem AAG {nx : Nat → Option Addr} {n sz s' : Int} : (CW nx n sz).setIfInBounds 16 (.int .i64 s') = CW nx n s' := by
 apply Array.toList_inj.1
 rw [Array.toList_setIfInBounds]
 simp only [CW, List.toList_toArray]
 rw [List.set_append_right _ _ (by simp [Az])]
 simp [Az]
theorem Bv {h : Heap} {b i : Nat} {l : Nat → Option Addr} {T : TypeId} {fr : Nat × Nat} (hb : h[b]? = some (.cells (ptrs l).toArray T fr)) (hi : i < 12) : hget h ⟨b, i, none⟩ = some (.pointer (l i)) := by
 rw [Hr hb, List.getElem?_toArray]; exact Od hi
def addrAt (t : Nat) (ns : List CK) (p : Nat) : Addr := match p with | 0 => ⟨t, 0, none⟩ | p + 1 => match ns[p]? with | some x => ⟨x.blk, 0, none⟩ | none => ⟨t, 0, none⟩
def OP (ns : List CK) (p : Nat) : Nat := match p with | 0 => 12 | p + 1 => match ns[p]? with | some x => x.ht | none => 0
def CF (i : Nat) (l : List CK) : Option Addr := (l.find? fun x => decide (i < x.ht)).map fun x => ⟨x.blk, 0, none⟩
def inT (t : Nat) (ns : List CK) (b : Nat) : Prop := b = t ∨ ∃ x ∈ ns, x.blk = b
structure Lay (h : Heap) (t : Nat) (ns : List CK) (nx : Nat → Nat → Option Addr) (n sz : Int) : Prop where
 head : h[t]? = some (.cells (CW (nx 0) n sz) Uz (0, 0))
 node : ∀ (j : Nat) (x : CK), ns[j]? = some x → h[x.blk]? = some (.cells (Dj x.pr (nx (j + 1))) Ni (0, 0)) ∧ x.blk ≠ t
 apart : ns.Pairwise fun x y => x.blk ≠ y.blk
structure Zu (ns : List CK) (nx : Nat → Nat → Option Addr) : Prop where
 link : ∀ p i, p ≤ ns.length → i < 12 → i < OP ns p → nx p i = CF i (ns.drop p)
 ht : ∀ x ∈ ns, 1 ≤ x.ht ∧ x.ht ≤ 12
theorem Lay.mod {h h' : Heap} {t : Nat} {ns : List CK} {nx : Nat → Nat → Option Addr} {n sz : Int} {S : Nat → Prop} (l : Lay h t ns nx n sz) (m : Mod S h h') (hS : ∀ b, inT t ns b → ¬ S b) : Lay h' t ns nx n sz :=
 ⟨m.blk l.head (hS _ (.inl rfl)), fun j x hx => ⟨m.blk (l.node j x hx).1 (hS _ (.inr ⟨x, List.mem_of_getElem? hx, rfl⟩)), (l.node j x hx).2⟩, l.apart⟩
theorem Lay.ext {h h' : Heap} {t : Nat} {ns : List CK} {nx : Nat → Nat → Option Addr} {n sz : Int} (l : Lay h t ns nx n sz) (m : Ext h h') : Lay h' t ns nx n sz := l.mod m fun _ _ h => h
theorem Lay.lt {h : Heap} {t : Nat} {ns : List CK} {nx : Nat → Nat → Option Addr} {n sz : Int} (l : Lay h t ns nx n sz) {b : Nat} (hb : inT t ns b) : b < h.size := by
 rcases hb with rfl | ⟨x, hx, rfl⟩
 ·exact Am l.head
 ·obtain ⟨j, hj, e⟩ := List.getElem_of_mem hx
  exact Am (l.node j x (by rw [List.getElem?_eq_getElem hj, e])).1
theorem Lay.next {h : Heap} {t : Nat} {ns : List CK} {nx : Nat → Nat → Option Addr} {n sz : Int} (l : Lay h t ns nx n sz) {p i : Nat} (hp : p ≤ ns.length) (hi : i < 12) : hget h (((addrAt t ns p).add 3).add (i * 1)) = some (.pointer (nx p i)) := by
 rw [add_add, Nat.mul_one]
 cases p with
 | zero => show hget h ((⟨t, 0, none⟩ : Addr).add (3 + i)) = _; exact AB l.head (AHd hi)
 | succ p =>
  have hg := List.getElem?_eq_getElem (l := ns) (i := p) (by omega)
  have e : addrAt t ns (p + 1) = ⟨ns[p].blk, 0, none⟩ := by simp [addrAt, hg]
  rw [e]
  exact AB (l.node p _ hg).1 (AIV hi)
theorem Lay.pair {h : Heap} {t : Nat} {ns : List CK} {nx : Nat → Nat → Option Addr} {n sz : Int} (l : Lay h t ns nx n sz) {j : Nat} {x : CK} (hx : ns[j]? = some x) :
  hget h ⟨x.blk, 0, none⟩ = some (.string x.pr.key) ∧ hget h ((⟨x.blk, 0, none⟩ : Addr).add 1) = some (.string x.pr.val) ∧ hget h ((⟨x.blk, 0, none⟩ : Addr).add 2) = some (.bool x.pr.gone) := by
 have hb := (l.node j x hx).1
 exact ⟨AJ hb rfl, AB hb rfl, AB hb rfl⟩
theorem AAx {i : Nat} {l : List CK} {a : Addr} (h : CF i l = some a) : ∃ k x, l[k]? = some x ∧ a = ⟨x.blk, 0, none⟩ ∧ i < x.ht ∧ ∀ (j : Nat) (y : CK), j < k → l[j]? = some y → y.ht ≤ i := by
 induction l with
 | nil => simp [CF] at h
 | cons x l ih =>
  unfold CF at h
  rw [List.find?_cons] at h
  by_cases hx : i < x.ht
  ·simp [hx] at h
   exact ⟨0, x, rfl, h.symm, hx, fun j y hj => by omega⟩
  ·simp [hx] at h
   obtain ⟨k, y, h1, h2, h3, h4⟩ := ih (by simpa [CF] using h)
   refine ⟨k + 1, y, by simpa using h1, h2, h3, fun j z hj hz => ?_⟩
   cases j with
   | zero => simp at hz; subst hz; omega
   | succ j => exact h4 j z (by omega) (by simpa using hz)
theorem TU {i : Nat} {l : List CK} (h : CF i l = none) : ∀ x ∈ l, x.ht ≤ i := by
 intro x hx
 simp [CF] at h
 exact h x hx
theorem ABU {i : Nat} {l : List CK} {k : Nat} (hk : k ≤ l.length) (h : ∀ (j : Nat) (y : CK), j < k → l[j]? = some y → y.ht ≤ i) : CF i l = CF i (l.drop k) := by
 induction k generalizing l with
 | zero => simp
 | succ k ih =>
  cases l with
  | nil => simp at hk
  | cons x l =>
   have hx := h 0 x (by omega) rfl
   rw [List.drop_succ_cons, ← ih (by simpa using hk) fun j y hj hy => h (j + 1) y (by omega) (by simpa using hy)]
   unfold CF
   rw [List.find?_cons]
   simp [Nat.not_lt.2 hx]
abbrev prs (ns : List CK) : List Pr := ns.map (·.pr)
theorem AAe {key : ByteArray} : ∀ {l : List Pr}, Sorted l → ∀ {j : Nat} {x : Pr}, l[j]? = some x → (j < atK key l ↔ sLt x.key key = true)
 | [], _, j, x, h => by simp at h
 | y :: l, s, j, x, h => by
  have s' := List.pairwise_cons.1 s
  by_cases hy : sLt y.key key = true
  ·have ea : atK key (y :: l) = atK key l + 1 := by simp [atK, Yr, hy]
   rw [ea]
   cases j with
   | zero => simp at h; subst h; simp [hy]
   | succ j =>
    have := AAe (key := key) s'.2 (j := j) (x := x) (by simpa using h)
    rw [← this]; omega
  ·have ea : atK key (y :: l) = 0 := by simp [atK, Yr, hy]
   rw [ea]
   cases j with
   | zero => simp at h; subst h; simp [hy]
   | succ j =>
    have hx : x ∈ l := List.mem_of_getElem? (by simpa using h)
    have h1 := s'.1 x hx
    constructor
    ·intro h2; omega
    ·intro h2; exact absurd (CP h1 h2) hy
structure P6 (ns : List CK) (key : ByteArray) (i p : Nat) : Prop where
 le : p ≤ atK key (prs ns)
 ht : i < OP ns p
 last : ∀ (j : Nat) (y : CK), p ≤ j → j < atK key (prs ns) → ns[j]? = some y → y.ht ≤ i
theorem TM (key : ByteArray) (ns : List CK) : atK key (prs ns) ≤ ns.length := by have := Qx key (prs ns); simpa using this
theorem FP {cs : Array Value} (l : Nat → Option Addr) (e : cs = (ptrs l).toArray) (i : Nat) (v : Option Addr) : cs.setIfInBounds i (.pointer v) = (ptrs (fun k => if k = i then v else l k)).toArray := by
 subst e
 apply Array.toList_inj.1
 rw [Array.toList_setIfInBounds]
 exact WS v
theorem AGJ {n : Nat} (h : n < 100) : IntKind.wrap .i64 (((n + 1 : Nat) : Int) - (1 : Int)) = (n : Int) := by
 rw [show (((n + 1 : Nat) : Int) - 1) = (n : Int) by omega]; exact FV (by omega)
set_option maxHeartbeats 400000 in
theorem Uc {A : Amb} {h : Heap} {t : Nat} {ns : List CK} {nx : Nat → Nat → Option Addr} {n sz : Int} {key : ByteArray} {R : Value → Heap → Prop} (L : Lay h t ns nx n sz) (K : Zu ns nx) (s : Sorted (prs ns))
  (H : ∀ (q : Nat → Nat) h', (∀ i, i < 12 → P6 ns key i (q i)) → Ext h h' → R (.agg #[.pointer (some (addrAt t ns (q 0))), .pointer (some (addrAt t ns (q 1))), .pointer (some (addrAt t ns (q 2))), .pointer (some (addrAt t ns (q 3))), .pointer (some (addrAt t ns (q 4))), .pointer (some (addrAt t ns (q 5))), .pointer (some (addrAt t ns (q 6))), .pointer (some (addrAt t ns (q 7))), .pointer (some (addrAt t ns (q 8))), .pointer (some (addrAt t ns (q 9))), .pointer (some (addrAt t ns (q 10))), .pointer (some (addrAt t ns (q 11)))]) h') :
  AA A P DT #[.pointer (some ⟨t, 0, none⟩), .string key] h R := by
 refine QK ?_
 unfold Ho
 refine New.mk fun h1 _ hb1 x1 hs1 => New.mk fun h2 _ hb2 x2 hs2 => ?_
 have x02 : Ext h h2 := x1.trans x2
 have hak := TM key ns
 refine Loop.rule (fun m x h3 => ∃ (p : Nat) (q : Nat → Nat) (l : Nat → Option Addr), x = (some (addrAt t ns p), (m : Int) - 1, ()) ∧ m ≤ 12 ∧ Mod (fun c => c = h1.size) h2 h3 ∧ p ≤ atK key (prs ns) ∧ (m = 0 ∨ m ≤ OP ns p) ∧
   h3[h1.size]? = some (.cells (ptrs l).toArray Cj (0, 0)) ∧ (∀ i, i < 12 → m ≤ i → P6 ns key i (q i) ∧ l i = some (addrAt t ns (q i)))) ?_
  (m := 12) ⟨0, fun _ => 0, fun _ => none, rfl, by omega, Mod.refl, by omega, .inr (by simp [OP]), hb2, fun i h1 h2 => by omega⟩
 rintro K0 m _ h3 ⟨p, q, l, rfl, hm, md, hp, hht, hbl, hq⟩ hK
 have xm : Ext h h3 := x02.then (md.weak fun c _ hc => .inr (by have := x1.size; omega))
 refine PIf.intro (fun hc => ?_) (fun hc => ?_)
 ·cases m with
  | zero => simp at hc
  | succ i =>
   have hi : i < 12 := by omega
   have hii : (((i + 1 : Nat) : Int) - 1) = (i : Int) := by omega
   rw [hii]
   have L3 := L.ext xm
   refine Loop.rule (fun m x h4 => ∃ p : Nat, x = (some (addrAt t ns p), ()) ∧ h4 = h3 ∧ m = atK key (prs ns) - p ∧ p ≤ atK key (prs ns) ∧ i < OP ns p) ?_ ⟨p, rfl, rfl, rfl, hp, by rcases hht with h | h <;> omega⟩
   rintro K1 m _ h4 ⟨p, rfl, hh, rfl, hp, hht⟩ hK1
   subst hh
   have hnx : nx p i = CF i (ns.drop p) := K.link p i (by omega) hi hht
   have hget := L3.next (p := p) (i := i) (by omega) hi
   refine Join.mk fun K2 hK2 => ?_
   have hchk : (0 : Int) ≤ (i : Int) ∧ (i : Int) < (12 : Int) := ⟨by omega, by omega⟩
   have hend : (∀ (j : Nat) (y : CK), p ≤ j → j < atK key (prs ns) → ns[j]? = some y → y.ht ≤ i) → K2 (false, ()) h4 := fun hl => hK2 _ _ (PIf.no rfl (by
    refine ⟨hchk, ?_⟩
    show Store h4 ((⟨h1.size, 0, none⟩ : Addr).add (i * 1)) _ _
    rw [Bw, Nat.zero_add, Nat.mul_one]
    refine Store.mk hbl (by simp [Az]; omega) fun h6 hb6 m6 hs6 => ?_
    rw [FP l rfl] at hb6
    have hbp : P6 ns key i p := ⟨hp, hht, hl⟩
    refine hK i _ _ (by omega) ⟨p, fun k => if k = i then p else q k, _, ?_, by omega, md.trans m6, hp, .inr (by omega), hb6, fun k hk hik => ?_⟩
    ·cases i with
     | zero => rfl
     | succ i => rw [AGJ (by omega), show (((i + 1 : Nat) : Int) - 1) = (i : Int) by omega]
    ·by_cases hki : k = i
     ·subst hki; simp [hbp]
     ·simp [hki]; exact hq k hk (by omega)))
   refine ⟨hchk, ?_⟩
   rw [Int.toNat_natCast]
   refine AU.mk hget ?_
   cases hf : nx p i with
   | none =>
    refine PIf.no rfl ?_
    refine hend fun j y hj hja hy => ?_
    rw [hnx] at hf
    refine TU hf y ?_
    rw [List.mem_drop_iff_getElem]
    have := List.getElem?_eq_some_iff.1 hy
    exact ⟨j - p, by omega, by rw [← this.2]; congr 1; omega⟩
   | some a =>
    refine PIf.yes rfl ?_
    refine ⟨hchk, AU.mk (hf ▸ hget) ?_⟩
    rw [hnx] at hf
    obtain ⟨k, x, hk, rfl, hxh, hbel⟩ := AAx hf
    rw [List.getElem?_drop] at hk
    refine AC.mk (L3.pair hk).1 ?_
    have hpk : (prs ns)[p + k]? = some x.pr := by simp [prs, hk]
    have hlow := AAe (key := key) s hpk
    cases hs : sLt x.pr.key key
    ·refine hend fun j y hj hja hy => ?_
     have hjk : j < p + k := by
      rcases Nat.lt_or_ge j (p + k) with h1 | h1
      ·exact h1
      ·have h2 : p + k < atK key (prs ns) := by omega
       rw [hlow.1 h2] at hs; cases hs
     exact hbel (j - p) y (by omega) (by rw [List.getElem?_drop]; rw [← hy]; congr 1; omega)
    ·have h2 := hlow.2 hs
     refine hK2 _ _ (PIf.yes rfl ?_)
     refine ⟨hchk, AU.mk (hf ▸ hnx ▸ hget) ?_⟩
     have ea : addrAt t ns (p + k + 1) = ⟨x.blk, 0, none⟩ := by simp [addrAt, hk]
     refine hK1 (atK key (prs ns) - (p + k + 1)) _ _ (by omega) ⟨p + k + 1, by rw [ea], rfl, rfl, by omega, by simp [OP, hk, hxh]⟩
 ·have hm0 : m = 0 := by simp at hc; omega
  subst hm0
  have hb0 : h3[h.size]? = some (.cells (ptrs (fun _ => none)).toArray Cj (0, 0)) := md.blk (x2.blk hb1 (by simp)) (by omega)
  simp only [Bw, Nat.zero_add]
  refine AU.mk (Bv hbl (i := 0) (by omega)) ?_
  refine AU.mk (Bv hbl (i := 1) (by omega)) ?_
  refine AU.mk (Bv hbl (i := 2) (by omega)) ?_
  refine AU.mk (Bv hbl (i := 3) (by omega)) ?_
  refine AU.mk (Bv hbl (i := 4) (by omega)) ?_
  refine AU.mk (Bv hbl (i := 5) (by omega)) ?_
  refine AU.mk (Bv hbl (i := 6) (by omega)) ?_
  refine AU.mk (Bv hbl (i := 7) (by omega)) ?_
  refine AU.mk (Bv hbl (i := 8) (by omega)) ?_
  refine AU.mk (Bv hbl (i := 9) (by omega)) ?_
  refine AU.mk (Bv hbl (i := 10) (by omega)) ?_
  refine AU.mk (Bv hbl (i := 11) (by omega)) ?_
  refine Store.mk hb0 (by simp [Az]) fun g0 b0 m0 s0 => ?_
  rw [FP _ rfl] at b0
  refine Store.mk b0 (by simp [Az]) fun g1 b1 m1 s1 => ?_
  rw [FP _ rfl] at b1
  refine Store.mk b1 (by simp [Az]) fun g2 b2 m2 s2 => ?_
  rw [FP _ rfl] at b2
  refine Store.mk b2 (by simp [Az]) fun g3 b3 m3 s3 => ?_
  rw [FP _ rfl] at b3
  refine Store.mk b3 (by simp [Az]) fun g4 b4 m4 s4 => ?_
  rw [FP _ rfl] at b4
  refine Store.mk b4 (by simp [Az]) fun g5 b5 m5 s5 => ?_
  rw [FP _ rfl] at b5
  refine Store.mk b5 (by simp [Az]) fun g6 b6 m6 s6 => ?_
  rw [FP _ rfl] at b6
  refine Store.mk b6 (by simp [Az]) fun g7 b7 m7 s7 => ?_
  rw [FP _ rfl] at b7
  refine Store.mk b7 (by simp [Az]) fun g8 b8 m8 s8 => ?_
  rw [FP _ rfl] at b8
  refine Store.mk b8 (by simp [Az]) fun g9 b9 m9 s9 => ?_
  rw [FP _ rfl] at b9
  refine Store.mk b9 (by simp [Az]) fun g10 b10 m10 s10 => ?_
  rw [FP _ rfl] at b10
  refine Store.mk b10 (by simp [Az]) fun g11 b11 m11 s11 => ?_
  rw [FP _ rfl] at b11
  have bb : g11[h.size]? = some (.cells (ptrs l).toArray Cj (0, 0)) := by
   rw [b11]
   congr 3
  refine AU.mk (Bv bb (i := 0) (by omega)) ?_
  refine AU.mk (Bv bb (i := 1) (by omega)) ?_
  refine AU.mk (Bv bb (i := 2) (by omega)) ?_
  refine AU.mk (Bv bb (i := 3) (by omega)) ?_
  refine AU.mk (Bv bb (i := 4) (by omega)) ?_
  refine AU.mk (Bv bb (i := 5) (by omega)) ?_
  refine AU.mk (Bv bb (i := 6) (by omega)) ?_
  refine AU.mk (Bv bb (i := 7) (by omega)) ?_
  refine AU.mk (Bv bb (i := 8) (by omega)) ?_
  refine AU.mk (Bv bb (i := 9) (by omega)) ?_
  refine AU.mk (Bv bb (i := 10) (by omega)) ?_
  refine AU.mk (Bv bb (i := 11) (by omega)) ?_
  have mall := ((((((((((m0.trans m1).trans m2).trans m3).trans m4).trans m5).trans m6).trans m7).trans m8).trans m9).trans m10).trans m11
  have := H q g11 (fun i hi => (hq i hi (by omega)).1) (xm.then (mall.weak fun c _ hc => .inr (by omega)))
  rw [(hq 0 (by omega) (by omega)).2, (hq 1 (by omega) (by omega)).2, (hq 2 (by omega) (by omega)).2, (hq 3 (by omega) (by omega)).2, (hq 4 (by omega) (by omega)).2, (hq 5 (by omega) (by omega)).2, (hq 6 (by omega) (by omega)).2, (hq 7 (by omega) (by omega)).2, (hq 8 (by omega) (by omega)).2, (hq 9 (by omega) (by omega)).2, (hq 10 (by omega) (by omega)).2, (hq 11 (by omega) (by omega)).2]
  exact this
end Go.Lf.G.M

/-
 The skip list: putting.
-/
set_option maxRecDepth 100000
namespace Go.Lf.G.M
open Go Go.Lf Go.Lf.G
theorem AI0 {z : Int} (h1 : -9223372036854775808 ≤ z) (h2 : z ≤ 9223372036854775807) : IntKind.wrap .i64 z = z := by
 have e : IntKind.wrap .i64 z = if z % 18446744073709551616 ≥ 9223372036854775808 then z % 18446744073709551616 - 18446744073709551616 else z % 18446744073709551616 := by
  simp [IntKind.wrap, IntKind.bits, IntKind.signed]
 rw [e]
 split <;> omega
theorem atI {a : Addr} {K : Addr → Prop} (h : K a) : At (some a) K := h
theorem AG7 {A : Amb} {h : Heap} {key : ByteArray} {R : Value → Heap → Prop} (hk : key.size ≤ 64) (H : ∀ k : Nat, 1 ≤ k → k ≤ 12 → R (.int .i64 (k : Int)) h) : AA A P J4 #[.string key] h R := by
 refine YZ ?_
 unfold NR
 refine Loop.rule (fun m x h1 => ∃ (i : Nat) (y : Int), x = (y, (i : Int), ()) ∧ h1 = h ∧ m = key.size - i ∧ i ≤ key.size) ?_ ⟨0, 2166136261, rfl, rfl, rfl, by omega⟩
 rintro K m _ h1 ⟨i, y, rfl, hh, rfl, hi⟩ hK
 subst hh
 refine PIf.intro (fun hq => ?_) (fun hq => ?_)
 ·have hi' : i < key.size := by simp at hq; omega
  refine ⟨⟨by show (0 : Int) ≤ (i : Int); omega, by show (i : Int) < _; omega⟩, hK (key.size - (i + 1)) _ _ (by omega) ⟨i + 1, _, by rw [AR (by omega)], rfl, rfl, by omega⟩⟩
 ·refine Loop.rule (fun m x h2 => ∃ (i : Nat) (y : Int), x = (y, (i : Int), ()) ∧ h2 = h1 ∧ m = 12 - i ∧ 1 ≤ i ∧ i ≤ 12) ?_ ⟨1, _, rfl, rfl, rfl, by omega, by omega⟩
  rintro K1 m _ h2 ⟨i, y, rfl, hh, rfl, hi1, hi2⟩ hK1
  subst hh
  refine Join.mk fun K2 hK2 => ?_
  have hend : K2 (false, ()) h2 := hK2 _ _ (PIf.no rfl (H i hi1 hi2))
  refine PIf.intro (fun hq => ?_) (fun hq => hend)
  have hi3 : i < 12 := by simp at hq; omega
  cases hb : ((OU .u32 y (3 : Int)) == (0 : Int))
  ·exact hend
  ·exact hK2 _ _ (PIf.yes rfl (hK1 (12 - (i + 1)) _ _ (by omega) ⟨i + 1, _, by rw [AR (by omega)], rfl, rfl, by omega, by omega⟩))
theorem Kr (i : Nat) (A B : List CK) : CF i (A ++ B) = (CF i A).or (CF i B) := by
 unfold CF; rw [List.find?_append]; cases A.find? (fun x => decide (i < x.ht)) <;> rfl
theorem AB3 {i : Nat} {l : List CK} (h : ∀ x ∈ l, x.ht ≤ i) : CF i l = none := by
 unfold CF
 rw [List.find?_eq_none.2 (fun x hx => by have := h x hx; simp; omega)]; rfl
theorem AEV {i : Nat} {l : List CK} {x : CK} (hx : x ∈ l) (h : i < x.ht) : ∃ a, CF i l = some a := by
 cases hf : CF i l with
 | some a => exact ⟨a, rfl⟩
 | none => have := TU hf x hx; omega
theorem NN {ns : List CK} (hts : ∀ x ∈ ns, 1 ≤ x.ht ∧ x.ht ≤ 12) (p : Nat) : CF 0 (ns.drop p) = (ns[p]?).map fun x => ⟨x.blk, 0, none⟩ := by
 cases hp : ns[p]? with
 | none => rw [List.drop_eq_nil_of_le (List.getElem?_eq_none_iff.1 hp)]; rfl
 | some x =>
  have h1 := List.getElem?_eq_some_iff.1 hp
  rw [List.drop_eq_getElem_cons h1.1, h1.2]
  have := (hts x (List.mem_of_getElem? hp)).1
  unfold CF
  rw [List.find?_cons]
  simp [Nat.lt_of_lt_of_le Nat.zero_lt_one this]
def upd (nx : Nat → Nat → Option Addr) (p i : Nat) (v : Option Addr) : Nat → Nat → Option Addr := fun p' k => if p' = p ∧ k = i then v else nx p' k
theorem Hq {p : Pr} {f g : Nat → Option Addr} (h : ∀ i, f i = g i) : Dj p f = Dj p g := by rw [show f = g from funext h]
theorem Q3 {n sz : Int} {f g : Nat → Option Addr} (h : ∀ i, f i = g i) : CW f n sz = CW g n sz := by rw [show f = g from funext h]
theorem Lay.store {h : Heap} {t : Nat} {ns : List CK} {nx : Nat → Nat → Option Addr} {n sz : Int} (l : Lay h t ns nx n sz) {p i : Nat} (hp : p ≤ ns.length) (hi : i < 12) {v : Option Addr} {K : Heap → Prop}
  (H : ∀ h', Lay h' t ns (upd nx p i v) n sz → Mod (inT t ns) h h' → h'.size = h.size → K h') : Store h (((addrAt t ns p).add 3).add (i * 1)) (.pointer v) K := by
 rw [add_add, Nat.mul_one]
 cases p with
 | zero =>
  show Store h ((⟨t, 0, none⟩ : Addr).add (3 + i)) _ _
  rw [Bw, Nat.zero_add]
  refine Store.mk l.head (by rw [head_size]; omega) fun h' hb m hs => H h' ⟨?_, fun j x hx => ⟨?_, (l.node j x hx).2⟩, l.apart⟩ (m.weak fun b _ hb => .inl hb) hs
  ·rw [hb, AHN hi, Q3 (g := upd nx 0 i v 0) (fun k => by simp [upd])]
  ·rw [m.get _ (Am (l.node j x hx).1) (l.node j x hx).2, (l.node j x hx).1, Hq (g := upd nx 0 i v (j + 1)) (fun k => by simp [upd])]
 | succ p =>
  have hg := List.getElem?_eq_getElem (l := ns) (i := p) (by omega)
  have e : addrAt t ns (p + 1) = ⟨ns[p].blk, 0, none⟩ := by simp [addrAt, hg]
  rw [e, Bw, Nat.zero_add]
  obtain ⟨hn, hne⟩ := l.node p _ hg
  refine Store.mk hn (by rw [Mc]; omega) fun h' hb m hs => H h' ⟨?_, fun j x hx => ⟨?_, (l.node j x hx).2⟩, l.apart⟩ (m.weak fun b _ hb => .inr ⟨_, List.mem_of_getElem? hg, hb.symm⟩) hs
  ·rw [m.get _ (Am l.head) (fun e => hne e.symm), l.head, Q3 (g := upd nx (p + 1) i v 0) (fun k => by simp [upd])]
  ·by_cases hj : j = p
   ·subst hj
    rw [hg] at hx; cases hx
    rw [hb, ACz, Hq (g := upd nx (j + 1) i v (j + 1)) (fun k => by simp [upd])]
   ·have hd : x.blk ≠ ns[p].blk := by
     have h1 := List.getElem?_eq_some_iff.1 hx
     have h2 := List.pairwise_iff_getElem.1 l.apart
     rcases Nat.lt_or_gt_of_ne hj with h3 | h3
     ·have := h2 j p h1.1 (by omega) h3; rw [h1.2] at this; exact this
     ·have := h2 p j (by omega) h1.1 h3; rw [h1.2] at this; exact fun e => this e.symm
    rw [m.get _ (Am (l.node j x hx).1) hd, (l.node j x hx).1, Hq (g := upd nx (p + 1) i v (j + 1)) (fun k => by simp [upd, hj])]
def DF (l : List Pr) : Nat := (l.map fun x => x.key.size + x.val.size).sum
structure Tab (h : Heap) (t : Nat) (ns : List CK) (l : List Pr) : Prop where
 lay : ∃ nx, Lay h t ns nx (l.length : Int) (DF l : Int) ∧ Zu ns nx
 prs : prs ns = l
 sorted : Sorted l
 good : CZ l
theorem Tab.mod {h h' : Heap} {t : Nat} {ns : List CK} {l : List Pr} {S : Nat → Prop} (T : Tab h t ns l) (m : Mod S h h') (hS : ∀ b, inT t ns b → ¬ S b) : Tab h' t ns l := by
 obtain ⟨nx, L, K⟩ := T.lay
 exact ⟨⟨nx, L.mod m hS, K⟩, T.prs, T.sorted, T.good⟩
theorem Tab.ext {h h' : Heap} {t : Nat} {ns : List CK} {l : List Pr} (T : Tab h t ns l) (m : Ext h h') : Tab h' t ns l := T.mod m fun _ _ h => h
theorem Tab.lt {h : Heap} {t : Nat} {ns : List CK} {l : List Pr} (T : Tab h t ns l) {b : Nat} (hb : inT t ns b) : b < h.size := by
 obtain ⟨nx, L, _⟩ := T.lay; exact L.lt hb
theorem AHI {A : Amb} {h : Heap} {R : Value → Heap → Prop} (H : ∀ h', Tab h' h.size [] [] → Ext h h' → h'.size = h.size + 1 → R (.pointer (some ⟨h.size, 0, none⟩)) h') : AA A P KE #[] h R := by
 refine ADz ?_
 unfold Te
 refine New.mk fun h1 _ hb hx hs => H h1 ⟨⟨fun _ _ => none, ⟨hb, fun j x h => by simp at h, List.Pairwise.nil⟩, ⟨fun p i hp hi _ => ?_, fun x h => by cases h⟩⟩, rfl, List.Pairwise.nil, fun x h => by cases h⟩ hx hs
 have : p = 0 := by simpa using hp
 subst this; rfl
theorem J5 (l m : List Pr) : DF (l ++ m) = DF l + DF m := by simp [DF, List.sum_append]
theorem NJ (x : Pr) (l : List Pr) : DF (x :: l) = x.key.size + x.val.size + DF l := by simp [DF]
theorem AEZ {l : List Pr} (g : CZ l) : DF l ≤ l.length * 8256 := by
 induction l with
 | nil => simp [DF]
 | cons x l ih =>
  have h1 := ih fun y hy => g y (by simp [hy])
  have h2 := g x (by simp)
  have h3 : x.key.size ≤ 64 ∧ x.val.size ≤ 8192 := by
   unfold Au at h2
   split at h2
   ·cases h2
   ·split at h2
    ·cases h2
    ·rename_i h4; simp at h4; omega
  rw [NJ, List.length_cons, Nat.add_mul]; omega
theorem AAZ {x : Pr} (h : Au x = 0) : x.key.size ≤ 64 ∧ x.val.size ≤ 8192 := by
 unfold Au at h
 split at h
 ·cases h
 ·split at h
  ·cases h
  ·rename_i h4; simp at h4; omega
theorem AGP {p q : Pr} {nx : Nat → Option Addr} : (((Dj p nx).setIfInBounds 0 (.string q.key)).setIfInBounds 1 (.string q.val)).setIfInBounds 2 (.bool q.gone) = Dj q nx := by
 apply Array.toList_inj.1
 rw [Array.toList_setIfInBounds, Array.toList_setIfInBounds, Array.toList_setIfInBounds]
 rfl
theorem Before.zero {ns : List CK} {key : ByteArray} {p : Nat} (hts : ∀ x ∈ ns, 1 ≤ x.ht ∧ x.ht ≤ 12) (b : P6 ns key 0 p) : p = atK key (prs ns) := by
 rcases Nat.lt_or_ge p (atK key (prs ns)) with h | h
 ·have hl := TM key ns
  have hg := List.getElem?_eq_getElem (l := ns) (i := p) (by omega)
  have h1 := b.last p _ (Nat.le_refl _) h hg
  have h2 := hts _ (List.mem_of_getElem? hg)
  omega
 ·have := b.le; omega
def nxI (nx : Nat → Nat → Option Addr) (q : Nat → Nat) (b : Addr) (i : Nat) : Nat → Nat → Option Addr := fun p k => if k < i ∧ p = q k then some b else nx p k
def nxN (nx : Nat → Nat → Option Addr) (q : Nat → Nat) (i : Nat) : Nat → Option Addr := fun k => if k < i then nx (q k) k else none
def nxF (nx : Nat → Nat → Option Addr) (q : Nat → Nat) (b : Addr) (k a : Nat) : Nat → Nat → Option Addr := fun p i => if p ≤ a then nxI nx q b k p i else if p = a + 1 then nxN nx q k i else nxI nx q b k (p - 1) i
theorem Vu {α : Type} {ns : List α} {x : α} {a j : Nat} (ha : a ≤ ns.length) : (ns.take a ++ x :: ns.drop a)[j]? = if j < a then ns[j]? else if j = a then some x else ns[j - 1]? := by
 split
 ·rename_i h
  rw [List.getElem?_append_left (by simp; omega), List.getElem?_take_of_lt h]
 ·rename_i h
  rw [List.getElem?_append_right (by simp; omega)]
  simp only [List.length_take, Nat.min_eq_left ha]
  split
  ·rename_i h2; subst h2; simp
  ·rename_i h2
   rw [show j - a = (j - a - 1) + 1 by omega, List.getElem?_cons_succ, List.getElem?_drop]
   congr 1; omega
theorem AIT {α : Type} {ns : List α} {x : α} {a p : Nat} (ha : a ≤ ns.length) (hp : p ≤ a) : (ns.take a ++ x :: ns.drop a).drop p = (ns.take a).drop p ++ x :: ns.drop a := by
 rw [List.drop_append_of_le_length (by simp; omega)]
theorem AGF {α : Type} {ns : List α} {x : α} {a p : Nat} (ha : a ≤ ns.length) (hp : a < p) : (ns.take a ++ x :: ns.drop a).drop p = ns.drop (p - 1) := by
 rw [List.drop_append, List.drop_eq_nil_of_le (by simp; omega), List.nil_append]
 simp only [List.length_take, Nat.min_eq_left ha]
 rw [show p - a = (p - a - 1) + 1 by omega, List.drop_succ_cons, List.drop_drop]
 congr 1; omega
theorem Zu.insert {ns : List CK} {nx : Nat → Nat → Option Addr} {key : ByteArray} (K : Zu ns nx) {q : Nat → Nat} (hq : ∀ i, i < 12 → P6 ns key i (q i)) {x : CK} (hx : 1 ≤ x.ht ∧ x.ht ≤ 12) :
  Zu (ns.take (atK key (prs ns)) ++ x :: ns.drop (atK key (prs ns))) (nxF nx q ⟨x.blk, 0, none⟩ x.ht (atK key (prs ns))) := by
 have hal := TM key ns
 generalize ha : atK key (prs ns) = a at *
 refine ⟨fun p i hp hi hht => ?_, fun y hy => ?_⟩
 ·unfold nxF
  split
  ·rename_i hpa
   have hht' : i < OP ns p := by
    cases p with
    | zero => exact hi
    | succ p =>
     unfold OP at hht ⊢
     simp only at hht ⊢
     rw [Vu hal, if_pos (by omega)] at hht
     exact hht
   have hlink := K.link p i (by omega) hi hht'
   have hsplit : ns.drop p = (ns.take a).drop p ++ ns.drop a := by
    rw [← List.drop_append_of_le_length (by simp; omega), List.take_append_drop]
   have hb := hq i hi
   rw [AIT hal hpa, Kr]
   unfold nxI
   by_cases hk : i < x.ht
   ·have hfx : CF i (x :: ns.drop a) = some ⟨x.blk, 0, none⟩ := by unfold CF; rw [List.find?_cons]; simp [hk]
    rw [hfx]
    by_cases hpq : p = q i
    ·rw [if_pos ⟨hk, hpq⟩, AB3 fun y hy => ?_]
     ·rfl
     ·obtain ⟨j, hj, e⟩ := List.getElem_of_mem hy
      simp at hj
      have hj2 : (ns.take a).drop p = (ns.take a).drop p := rfl
      refine hb.last (p + j) y (by omega) (by rw [ha]; omega) ?_
      have : ((ns.take a).drop p)[j]? = some y := by rw [List.getElem?_eq_getElem (by simp; omega), e]
      rw [List.getElem?_drop, List.getElem?_take_of_lt (by omega)] at this
      exact this
    ·rw [if_neg (fun h => hpq h.2), hlink, hsplit, Kr]
     have hlt : p < q i := by
      rcases Nat.lt_trichotomy p (q i) with h | h | h
      ·exact h
      ·exact absurd h hpq
      ·exfalso
       cases p with
       | zero => omega
       | succ p =>
        have hg := List.getElem?_eq_getElem (l := ns) (i := p) (by omega)
        have h1 := hb.last p _ (by omega) (by rw [ha]; omega) hg
        simp [OP, hg] at hht'
        omega
     have hqa := hb.le
     rw [ha] at hqa
     have hqh := hb.ht
     obtain ⟨r, hr⟩ : ∃ r, q i = r + 1 := ⟨q i - 1, by omega⟩
     rw [hr] at hqh hlt hqa
     have hg := List.getElem?_eq_getElem (l := ns) (i := r) (by omega)
     simp [OP, hg] at hqh
     have hmem : ns[r] ∈ (ns.take a).drop p := by
      refine List.mem_of_getElem? (i := r - p) ?_
      rw [List.getElem?_drop, List.getElem?_take_of_lt (by omega), show p + (r - p) = r by omega, hg]
     obtain ⟨y, hy⟩ := AEV hmem hqh
     rw [hy]; rfl
   ·rw [if_neg (fun h => hk h.1), hlink, hsplit, Kr]
    have : CF i (x :: ns.drop a) = CF i (ns.drop a) := by unfold CF; rw [List.find?_cons]; simp [hk]
    rw [this]
  ·rename_i hpa
   rw [AGF hal (by omega)]
   split
   ·rename_i hp1
    subst hp1
    have hk : i < x.ht := by
     unfold OP at hht
     simp only at hht
     rw [Vu hal, if_neg (by omega), if_pos rfl] at hht
     exact hht
    have hb := hq i hi
    have hqa := hb.le
    rw [ha] at hqa
    unfold nxN
    rw [if_pos hk, K.link (q i) i (by omega) hi hb.ht, ABU (k := a - q i) (by simp; omega) fun j y hj hy => ?_]
    ·rw [List.drop_drop]; congr 2; omega
    ·rw [List.getElem?_drop] at hy
     exact hb.last _ y (by omega) (by rw [ha]; omega) hy
   ·rename_i hp1
    obtain ⟨r, rfl⟩ : ∃ r, p = r + 1 := ⟨p - 1, by omega⟩
    rw [Nat.add_sub_cancel]
    have hlen : (ns.take a ++ x :: ns.drop a).length = ns.length + 1 := by simp; omega
    have hht' : i < OP ns r := by
     unfold OP at hht
     simp only at hht
     rw [Vu hal, if_neg (by omega), if_neg (by omega)] at hht
     obtain ⟨r', rfl⟩ : ∃ r', r = r' + 1 := ⟨r - 1, by omega⟩
     unfold OP
     simpa using hht
    have hqa := (hq i hi).le
    rw [ha] at hqa
    unfold nxI
    rw [if_neg (fun h => by omega)]
    exact K.link r i (by omega) hi hht'
 ·rw [List.mem_append, List.mem_cons] at hy
  rcases hy with hy | rfl | hy
  ·exact K.ht y (List.mem_of_mem_take hy)
  ·exact hx
  ·exact K.ht y (List.mem_of_mem_drop hy)
set_option maxHeartbeats 1000000 in
theorem AFY {A : Amb} {h : Heap} {t : Nat} {ns : List CK} {l : List Pr} {x : Pr} {R : Value → Heap → Prop} (T : Tab h t ns l) (hl : l.length < 1099511627776)
  (H : ∀ ns' h', Tab h' t ns' (Df x l) → Mod (inT t ns) h h' → (∀ b, inT t ns' b → inT t ns b ∨ h.size ≤ b) → R (.int .i64 (Au x)) h') :
  AA A P FN #[.pointer (some ⟨t, 0, none⟩), .agg #[.string x.key, .string x.val, .bool x.gone]] h R := by
 refine UX ?_
 unfold Jk
 refine New.mk fun h1 _ hb hx1 hs1 => ?_
 have T1 := T.ext hx1
 have Hbad : Au x ≠ 0 → R (.int .i64 (Au x)) h1 := fun hw => H ns h1 (by simpa [Df, hw] using T1) hx1.mod (fun b hb => .inl hb)
 refine Join.mk fun K hK => ?_
 have hbad : (decide (x.key = ⟨#[]⟩) || (x.gone && !decide (x.val = ⟨#[]⟩))) = true → K (true, ()) h1 := fun hc => hK _ _ (PIf.yes rfl (by
  have hw : Au x = 1 := by unfold Au; rw [if_pos hc]
  have := Hbad (by rw [hw]; decide)
  rw [hw] at this; exact this))
 have hgood : (decide (x.key = ⟨#[]⟩) || (x.gone && !decide (x.val = ⟨#[]⟩))) = false → K (false, ()) h1 := fun hc => hK _ _ (PIf.no rfl (by
  refine Join.mk fun K1 hK1 => ?_
  have hlong : (decide (x.key.size > 64) || decide (x.val.size > 8192)) = true → K1 (true, ()) h1 := fun hc2 => hK1 _ _ (PIf.yes rfl (by
   have hw : Au x = 2 := by unfold Au; rw [if_neg (by simp [hc]), if_pos hc2]
   have := Hbad (by rw [hw]; decide)
   rw [hw] at this; exact this))
  have hok : (decide (x.key.size > 64) || decide (x.val.size > 8192)) = false → K1 (false, ()) h1 := fun hc2 => hK1 _ _ (PIf.no rfl (by
   have hw : Au x = 0 := by unfold Au; rw [if_neg (by simp [hc]), if_neg (by simp [hc2])]
   have hgs := AAZ hw
   clear hbad hK1 hK hlong Hbad
   obtain ⟨nx, L1, Kl⟩ := T1.lay
   have hput : Df x l = ins x l := MR hw
   have hsorted := LM (x := x) T.sorted
   have hgoodl := X0 (x := x) T.good
   have hprs := T.prs
   have hss : Sorted (prs ns) := by rw [hprs]; exact T.sorted
   have hll : ns.length = l.length := by rw [← hprs]; simp
   have hsum := AEZ T.good
   refine AC.mk (AJ hb rfl) ?_
   refine Uc L1 Kl hss fun q h4 hq x4 => ⟨_, _, _, _, _, _, _, _, _, _, _, _, rfl, ?_⟩
   have hq0 := Before.zero Kl.ht (hq 0 (by omega))
   have L4 := L1.ext x4
   refine New.mk fun h5 _ hb5 x5 hs5 => ?_
   have hb5' : h5[h4.size]? = some (.cells (ptrs (fun _ => none)).toArray Cj (0, 0)) := hb5
   simp only [Bw, Nat.zero_add]
   refine Store.mk hb5' (by simp [Az]) fun g0 b0 m0 s0 => ?_
   rw [FP _ rfl] at b0
   refine Store.mk b0 (by simp [Az]) fun g1 b1 m1 s1 => ?_
   rw [FP _ rfl] at b1
   refine Store.mk b1 (by simp [Az]) fun g2 b2 m2 s2 => ?_
   rw [FP _ rfl] at b2
   refine Store.mk b2 (by simp [Az]) fun g3 b3 m3 s3 => ?_
   rw [FP _ rfl] at b3
   refine Store.mk b3 (by simp [Az]) fun g4 b4 m4 s4 => ?_
   rw [FP _ rfl] at b4
   refine Store.mk b4 (by simp [Az]) fun g5 b5 m5 s5 => ?_
   rw [FP _ rfl] at b5
   refine Store.mk b5 (by simp [Az]) fun g6 b6 m6 s6 => ?_
   rw [FP _ rfl] at b6
   refine Store.mk b6 (by simp [Az]) fun g7 b7 m7 s7 => ?_
   rw [FP _ rfl] at b7
   refine Store.mk b7 (by simp [Az]) fun g8 b8 m8 s8 => ?_
   rw [FP _ rfl] at b8
   refine Store.mk b8 (by simp [Az]) fun g9 b9 m9 s9 => ?_
   rw [FP _ rfl] at b9
   refine Store.mk b9 (by simp [Az]) fun g10 b10 m10 s10 => ?_
   rw [FP _ rfl] at b10
   refine Store.mk b10 (by simp [Az]) fun g11 b11 m11 s11 => ?_
   rw [FP _ rfl] at b11
   have hbl : g11[h4.size]? = some (.cells (ptrs (fun i => some (addrAt t ns (q i)))).toArray Cj (0, 0)) := by
    rw [b11]
    congr 3
   have mall := ((((((((((m0.trans m1).trans m2).trans m3).trans m4).trans m5).trans m6).trans m7).trans m8).trans m9).trans m10).trans m11
   have x411 : Ext h4 g11 := x5.then (mall.weak fun c _ hc => .inr (by omega))
   have szx := x411.size
   have hb1lt := Am hbl
   have sz4 := x4.size
   clear mall b0 b1 b2 b3 b4 b5 b6 b7 b8 b9 b10 b11 m0 m1 m2 m3 m4 m5 m6 m7 m8 m9 m10 m11 s0 s1 s2 s3 s4 s5 s6 s7 s8 s9 s10 s11
   have L11 := L4.ext x411
   have hbp : g11[h.size]? = some (.cells #[.string x.key, .string x.val, .bool x.gone] AO (0, 0)) := x411.blk (x4.blk hb (by simp)) (by simp)
   have hak := TM x.key ns
   have xall : Ext h g11 := hx1.trans (x4.trans x411)
   refine ⟨by omega, AU.mk (Bv hbl (i := 0) (by omega)) ⟨by omega, AU.mk (L11.next (p := q 0) (i := 0) (by rw [hq0]; omega) (by omega)) ?_⟩⟩
   have hnx0 : nx (q 0) 0 = (ns[atK x.key (prs ns)]?).map fun y => ⟨y.blk, 0, none⟩ := by
    rw [Kl.link (q 0) 0 (by rw [hq0]; omega) (by omega) (hq 0 (by omega)).ht, hq0, NN Kl.ht]
   rw [hnx0]
   have hthere : Br x.key l = match ns[atK x.key (prs ns)]? with | some y => decide (y.pr.key = x.key) | none => false := by
    unfold Br
    rw [← hprs]
    rw [show prs ns = ns.map (·.pr) from rfl, List.getElem?_map]
    cases ns[atK x.key (ns.map (·.pr))]? <;> rfl
   generalize ha : atK x.key (prs ns) = a at *
   have hal : atK x.key l = a := by rw [← hprs]; exact ha
   have hinsL : TE x l = ins x l := Vz x l
   refine Join.mk fun K2 hK2 => ?_
   have hfound : ∀ y, ns[a]? = some y → y.pr.key = x.key → K2 (true, ()) g11 := fun y hy hyk => hK2 _ _ (PIf.yes rfl (by
    have hya := List.getElem?_eq_some_iff.1 hy
    have hya1 : a < ns.length := hya.1
    rw [hy]
    have hrow := L11.pair hy
    have hyks : y.pr.key.size = x.key.size := by rw [hyk]
    refine AZ.mk (AB L11.head XC.2) (AC.mk (AJ hbp rfl) (AC.mk hrow.2.1 ?_))
    have hsz2 : ∃ r : Nat, DF l = y.pr.key.size + y.pr.val.size + r ∧ DF (Df x l) = x.key.size + x.val.size + r := by
     have e1 : l = l.take a ++ y.pr :: l.drop (a + 1) := by
      have hla : l[a]? = some y.pr := by rw [← hprs]; simp [hy]
      have h1 := List.getElem?_eq_some_iff.1 hla
      rw [← h1.2, ← List.drop_eq_getElem_cons h1.1, List.take_append_drop]
     have e2 : Df x l = l.take a ++ x :: l.drop (a + 1) := by
      rw [hput, ← hinsL]
      unfold TE
      rw [hthere, hy, hal, if_pos (by simp [hyk])]
      simp
     refine ⟨DF (l.take a) + DF (l.drop (a + 1)), ?_, ?_⟩
     ·conv => lhs; rw [e1]
      rw [J5, NJ]; omega
     ·rw [e2, J5, NJ]; omega
    obtain ⟨r, hr1, hr2⟩ := hsz2
    have hw1 : IntKind.wrap .i64 ((DF l : Int) + IntKind.wrap .i64 ((x.val.size : Int) - (y.pr.val.size : Int))) = (DF (Df x l) : Int) := by
     have hyv : y.pr.val.size ≤ 8192 := (AAZ (T.good y.pr (by rw [← hprs]; exact List.mem_map.2 ⟨y, List.mem_of_getElem? hy, rfl⟩))).2
     have e1 : IntKind.wrap .i64 ((x.val.size : Int) - (y.pr.val.size : Int)) = (x.val.size : Int) - (y.pr.val.size : Int) := by
      exact AI0 (by omega) (by omega)
     rw [e1, show (DF l : Int) + ((x.val.size : Int) - (y.pr.val.size : Int)) = ((DF (Df x l) : Nat) : Int) by omega]
     exact FV (by omega)
    rw [hw1]
    refine atI ?_
    rw [Bw, Nat.zero_add]
    refine Store.mk L11.head (by rw [head_size]; omega) fun h19 hb19 m19 hs19 => ?_
    rw [AAG] at hb19
    have hyn := L11.node a y hy
    have hbp19 : h19[h.size]? = some (.cells #[.string x.key, .string x.val, .bool x.gone] AO (0, 0)) := m19.blk hbp (by have := L1.lt (.inl rfl : inT t ns t); have := T.lt (.inl rfl : inT t ns t); omega)
    refine AC.mk (AJ hbp19 rfl) (AC.mk (AJ hbp19 rfl) (AY.mk (AJ hbp19 rfl) ?_))
    have hyn19 := m19.blk hyn.1 hyn.2
    refine atI ?_
    refine Store.mk hyn19 (by rw [Mc]; omega) fun h20 hb20 m20 hs20 => ?_
    rw [Bw, Bw]
    refine Store.mk hb20 (by rw [Array.size_setIfInBounds, Mc]; omega) fun h21 hb21 m21 hs21 => ?_
    refine Store.mk hb21 (by rw [Array.size_setIfInBounds, Array.size_setIfInBounds, Mc]; omega) fun h22 hb22 m22 hs22 => ?_
    simp only [Nat.zero_add] at hb22
    rw [AGP] at hb22
    have mm : Mod (fun c => c = y.blk) h19 h22 := (m20.trans m21).trans m22
    have hnt : inT t ns t := .inl rfl
    have hny : inT t ns y.blk := .inr ⟨y, List.mem_of_getElem? hy, rfl⟩
    rw [← hw]
    refine H (ns.set a { y with pr := x }) h22 ⟨⟨nx, ⟨?_, fun j z hz => ?_, ?_⟩, ⟨fun p i hp hi hht => ?_, fun z hz => ?_⟩⟩, ?_, hsorted, hgoodl⟩ ?_ fun b hb => ?_
    ·have hlen : (Df x l).length = l.length := by
      rw [hput, ← hinsL]; unfold TE
      rw [hthere, hy, hal, if_pos (by simp [hyk])]
      simp; omega
     rw [hlen]
     exact mm.blk hb19 (fun e => hyn.2 e.symm)
    ·rw [List.getElem?_set] at hz
     split at hz
     ·rename_i he
      subst he
      simp [hya.1] at hz
      subst hz
      exact ⟨hb22, hyn.2⟩
     ·rename_i he
      have hzn := L11.node j z hz
      refine ⟨?_, hzn.2⟩
      refine mm.blk (m19.blk hzn.1 hzn.2) ?_
      have h1 := List.getElem?_eq_some_iff.1 hz
      have h2 := List.pairwise_iff_getElem.1 L11.apart
      rcases Nat.lt_or_gt_of_ne he with h3 | h3
      ·have := h2 a j hya.1 h1.1 h3; rw [h1.2, hya.2] at this; exact fun e => this e.symm
      ·have := h2 j a h1.1 hya.1 h3; rw [h1.2, hya.2] at this; exact this
    ·have e : (ns.set a { y with pr := x }).map (·.blk) = ns.map (·.blk) := by
      rw [List.map_set]
      apply List.ext_getElem?
      intro j
      rw [List.getElem?_set]
      split
      ·rename_i he; subst he; simp [hya.1, hya.2]
      ·rfl
     have h1 : (ns.map (·.blk)).Pairwise (· ≠ ·) := List.pairwise_map.2 L11.apart
     rw [← e] at h1
     exact List.pairwise_map.1 h1
    ·rw [List.length_set] at hp
     have hhte : OP (ns.set a { y with pr := x }) p = OP ns p := by
      cases p with
      | zero => rfl
      | succ p =>
       unfold OP
       simp only
       rw [List.getElem?_set]
       by_cases he : a = p
       ·subst he; rw [if_pos rfl, if_pos hya1, hy]
       ·rw [if_neg he]
     rw [hhte] at hht
     rw [Kl.link p i hp hi hht]
     have key : ∀ m : List CK, ∀ a, m[a]? = some y → CF i (m.set a { y with pr := x }) = CF i m := by
      intro m
      induction m with
      | nil => intro a h; simp at h
      | cons z m ih =>
       intro a h
       cases a with
       | zero => simp at h; subst h; by_cases hd : i < z.ht <;> simp [CF, hd]
       | succ a =>
        have := ih a (by simpa using h)
        unfold CF at this ⊢
        rw [List.set_cons_succ, List.find?_cons, List.find?_cons]
        split
        ·rfl
        ·exact this
     rcases Nat.lt_or_ge a p with h1 | h1
     ·rw [List.drop_set_of_lt h1]
     ·rw [List.drop_set]
      rw [if_neg (by omega)]
      exact (key _ _ (by rw [List.getElem?_drop]; rw [← hy]; congr 1; omega)).symm
    ·obtain ⟨j, hj, e⟩ := List.getElem_of_mem hz
     rw [List.getElem_set] at e
     split at e
     ·subst e; exact Kl.ht y (List.mem_of_getElem? hy)
     ·subst e; exact Kl.ht _ (List.getElem_mem _)
    ·rw [hput, ← hinsL]; unfold TE
     rw [hthere, hy, hal, if_pos (by simp [hyk])]
     show (ns.set a { y with pr := x }).map (·.pr) = _
     rw [List.map_set, List.set_eq_take_append_cons_drop]
     have : (ns.map (·.pr)) = l := hprs
     rw [this]
     have hla : a < l.length := by omega
     simp [hla]
    ·have m1 : Mod (inT t ns) g11 h22 := (m19.weak fun c _ hc => by subst hc; exact hnt).trans (mm.weak fun c _ hc => by subst hc; exact hny)
     exact xall.mod.trans m1
    ·rcases hb with rfl | ⟨z, hz, rfl⟩
     ·exact .inl (.inl rfl)
     ·obtain ⟨j, hj, e⟩ := List.getElem_of_mem hz
      rw [List.getElem_set] at e
      split at e
      ·subst e; exact .inl hny
      ·subst e; exact .inl (.inr ⟨_, List.getElem_mem _, rfl⟩)))
   have hnew : Br x.key l = false → K2 (false, ()) g11 := fun hnt => hK2 _ _ (PIf.no rfl (by
    refine AC.mk (AJ hbp rfl) (AC.mk (AJ hbp rfl) (AY.mk (AJ hbp rfl) ?_))
    refine New.mk fun h23 _ hb23 x23 hs23 => ?_
    have hbp23 := x23.blk hbp (by simp)
    refine AC.mk (AJ hbp23 rfl) ?_
    refine AG7 hgs.1 fun k hk1 hk2 => ⟨_, rfl, ?_⟩
    have hbn : h23[g11.size]? = some (.cells (Dj x (fun _ => none)) Ni (0, 0)) := hb23
    have L23 := L11.ext x23
    have hqn : ∀ i, i < 12 → q i ≤ ns.length := fun i hi => by have := (hq i hi).le; rw [ha] at this; omega
    have hbl23 := x23.blk hbl (by simp)
    have hinlt : ∀ c, inT t ns c → c < g11.size := fun c hc => L11.lt hc
    have hinlt4 : ∀ c, inT t ns c → c < h4.size := fun c hc => L4.lt hc
    refine Loop.rule (fun m y h25 => ∃ i : Nat, y = ((i : Int), ()) ∧ m = k - i ∧ i ≤ k ∧ Mod (fun c => inT t ns c ∨ c = g11.size) h23 h25 ∧ Lay h25 t ns (nxI nx q ⟨g11.size, 0, none⟩ i) (l.length : Int) (DF l : Int) ∧ h25[g11.size]? = some (.cells (Dj x (nxN nx q i)) Ni (0, 0))) ?_
     ⟨0, rfl, rfl, by omega, Mod.refl, ?_, ?_⟩
    rotate_left
    ·have : nxI nx q ⟨g11.size, 0, none⟩ 0 = nx := by funext p k; simp [nxI]
     rw [this]; exact L23
    ·have : nxN nx q 0 = fun _ => none := by funext k; simp [nxN]
     rw [this]; exact hbn
    rintro K3 m _ h25 ⟨i, rfl, rfl, hi, m25, L25, hb25⟩ hK3
    have hsz25 := m25.size
    have hbl25 : h25[h4.size]? = some (.cells (ptrs (fun i => some (addrAt t ns (q i)))).toArray Cj (0, 0)) := m25.blk hbl23 (fun hh => hh.elim (fun h1 => by have := hinlt4 _ h1; omega) (fun h1 => by omega))
    refine PIf.intro (fun hc => ?_) (fun hc => ?_)
    ·have hik : i < k := by simpa using hc
     have hi12 : i < 12 := by omega
     have hchk : (0 : Int) ≤ (i : Int) ∧ (i : Int) < (12 : Int) := ⟨by omega, by omega⟩
     refine ⟨hchk, ?_⟩
     show AU h25 ⟨h4.size, i * 1, none⟩ _
     rw [Nat.mul_one]
     refine AU.mk (Bv hbl25 hi12) ⟨hchk, ?_⟩
     show AU h25 (((addrAt t ns (q i)).add 3).add (i * 1)) _
     refine AU.mk (L25.next (p := q i) (i := i) (hqn i hi12) hi12) ⟨hchk, ?_⟩
     have hnxv : nxI nx q ⟨g11.size, 0, none⟩ i (q i) i = nx (q i) i := by simp [nxI]
     show Store h25 ⟨g11.size, 3 + i * 1, none⟩ (.pointer (nxI nx q ⟨g11.size, 0, none⟩ i (q i) i)) _
     rw [hnxv, Nat.mul_one]
     refine Store.mk hb25 (by rw [Mc]; omega) fun h26 hb26 m26 hs26 => ?_
     rw [ACz] at hb26
     have L26 := L25.mod m26 (fun c hc e => by have := hinlt c hc; omega)
     refine ⟨hchk, ?_⟩
     show AU h26 ⟨h4.size, i * 1, none⟩ _
     rw [Nat.mul_one]
     refine AU.mk (Bv (m26.blk hbl25 (by omega)) hi12) ⟨hchk, ?_⟩
     show Store h26 (((addrAt t ns (q i)).add 3).add (i * 1)) (.pointer (some ⟨g11.size, 0, none⟩)) (fun h27 => K3 (IntKind.wrap .i64 ((i : Int) + (1 : Int)), ()) h27)
     refine L26.store (p := q i) (i := i) (hqn i hi12) hi12 (v := some ⟨g11.size, 0, none⟩) (fun h27 L27 m27 hs27 => ?_)
     ·refine hK3 (k - (i + 1)) _ _ (by omega) ⟨i + 1, by rw [AR (by omega)], rfl, by omega, (m25.trans (m26.weak fun c _ hc => .inr hc)).trans (m27.weak fun c _ hc => .inl hc), ?_, ?_⟩
      ·have : upd (nxI nx q ⟨g11.size, 0, none⟩ i) (q i) i (some ⟨g11.size, 0, none⟩) = nxI nx q ⟨g11.size, 0, none⟩ (i + 1) := by
        funext p j
        unfold upd nxI
        by_cases hj : j = i
        ·subst hj
         by_cases hp : p = q j <;> simp [hp]
        ·by_cases hp : p = q j <;> simp [hp, hj, Nat.lt_succ_iff, Nat.le_iff_lt_or_eq]
       rw [this] at L27
       exact L27
      ·rw [m27.blk hb26 (fun hc => by have := hinlt _ hc; omega), Hq (g := nxN nx q (i + 1)) (fun j => ?_)]
       unfold nxN
       by_cases hj : j = i
       ·subst hj; simp
       ·simp [hj, Nat.lt_succ_iff, Nat.le_iff_lt_or_eq]
    ·have hik : i = k := by simp at hc; omega
     subst hik
     refine AZ.mk (AB L25.head XC.1) ?_
     refine atI ?_
     rw [Bw, Nat.zero_add]
     refine Store.mk L25.head (by rw [head_size]; omega) fun h28 hb28 m28 hs28 => ?_
     rw [AGn] at hb28
     have htn : inT t ns t := .inl rfl
     have htlt := T.lt htn
     have hbp25 : h25[h.size]? = some (.cells #[.string x.key, .string x.val, .bool x.gone] AO (0, 0)) := m25.blk hbp23 (fun hh => hh.elim (fun h1 => by have := T.lt h1; omega) (fun h1 => by omega))
     have hbp28 := m28.blk hbp25 (by omega)
     refine atI ?_
     rw [Bw, Nat.zero_add]
     refine AZ.mk (AJ hb28 XC.2) (AC.mk (AJ hbp28 rfl) (AC.mk (AJ hbp28 rfl) (atI ?_)))
     rw [Bw, Nat.zero_add]
     refine Store.mk hb28 (by rw [head_size]; omega) fun h29 hb29 m29 hs29 => ?_
     rw [AAG] at hb29
     have e2 : Df x l = l.take a ++ x :: l.drop a := by
      rw [hput, ← hinsL]; unfold TE
      rw [hnt, hal]; simp
     have hsz : DF (Df x l) = DF l + (x.key.size + x.val.size) := by
      rw [e2, J5, NJ]
      have : DF l = DF (l.take a) + DF (l.drop a) := by rw [← J5, List.take_append_drop]
      omega
     have hlen : (Df x l).length = l.length + 1 := by rw [e2]; simp; omega
     have hw1 : IntKind.wrap .i64 ((l.length : Int) + (1 : Int)) = ((Df x l).length : Int) := by rw [hlen]; exact AR (by omega)
     have hw2 : IntKind.wrap .i64 ((DF l : Int) + IntKind.wrap .i64 ((x.key.size : Int) + (x.val.size : Int))) = (DF (Df x l) : Int) := by
      rw [show ((x.key.size : Int) + (x.val.size : Int)) = ((x.key.size + x.val.size : Nat) : Int) by omega, FV (by omega), show (DF l : Int) + ((x.key.size + x.val.size : Nat) : Int) = ((DF (Df x l) : Nat) : Int) by omega]
      exact FV (by omega)
     rw [hw1, hw2] at hb29
     have mt : Mod (fun c => c = t) h25 h29 := m28.trans m29
     have hb29n := mt.blk hb25 (by have := hinlt _ htn; omega)
     rw [← hw]
     refine H (ns.take a ++ ⟨g11.size, x, i⟩ :: ns.drop a) h29 ⟨⟨nxF nx q ⟨g11.size, 0, none⟩ i a, ⟨?_, fun j z hz => ?_, ?_⟩, ?_⟩, ?_, hsorted, hgoodl⟩ ?_ fun b hb => ?_
     ·rw [hb29, Q3 (g := nxF nx q ⟨g11.size, 0, none⟩ i a 0) (fun k => ?_)]
      simp [nxF]
     ·rw [Vu hak] at hz
      split at hz
      ·rename_i hja
       have hzn := L25.node j z hz
       refine ⟨?_, hzn.2⟩
       rw [mt.blk hzn.1 hzn.2, Hq (g := nxF nx q ⟨g11.size, 0, none⟩ i a (j + 1)) (fun k => ?_)]
       unfold nxF
       rw [if_pos (by omega)]
      ·rename_i hja
       split at hz
       ·rename_i hja2
        subst hja2
        cases hz
        refine ⟨?_, by have := hinlt _ htn; show g11.size ≠ t; omega⟩
        show h29[g11.size]? = _
        rw [hb29n, Hq (g := nxF nx q ⟨g11.size, 0, none⟩ i j (j + 1)) (fun k => ?_)]
        unfold nxF
        rw [if_neg (by omega), if_pos rfl]
       ·rename_i hja2
        obtain ⟨j', rfl⟩ : ∃ j', j = j' + 1 := ⟨j - 1, by omega⟩
        rw [Nat.add_sub_cancel] at hz
        have hzn := L25.node j' z hz
        refine ⟨?_, hzn.2⟩
        rw [mt.blk hzn.1 hzn.2, Hq (g := nxF nx q ⟨g11.size, 0, none⟩ i a (j' + 1 + 1)) (fun k => ?_)]
        unfold nxF
        rw [if_neg (by omega), if_neg (by omega), Nat.add_sub_cancel]
     ·have h1 := L25.apart
      have hne : ∀ z ∈ ns, z.blk ≠ g11.size := fun z hz e => by have := hinlt z.blk (.inr ⟨z, hz, rfl⟩); omega
      rw [← List.take_append_drop a ns] at h1
      rw [List.pairwise_append] at h1 ⊢
      refine ⟨h1.1, List.pairwise_cons.2 ⟨fun z hz => fun e => hne z (List.mem_of_mem_drop hz) e.symm, h1.2.1⟩, fun y hy z hz => ?_⟩
      rcases List.mem_cons.1 hz with rfl | hz
      ·exact hne y (List.mem_of_mem_take hy)
      ·exact h1.2.2 y hy z hz
     ·have := Kl.insert (key := x.key) hq (x := ⟨g11.size, x, i⟩) ⟨hk1, hk2⟩
      rw [ha] at this
      exact this
     ·show (ns.take a ++ ⟨g11.size, x, i⟩ :: ns.drop a).map (·.pr) = _
      have : (ns.map (·.pr)) = l := hprs
      rw [e2, ← this]
      simp [List.map_take, List.map_drop]
     ·have m1 : Mod (fun c => inT t ns c ∨ c = g11.size) g11 h29 := (x23.mod.trans m25).trans (mt.weak fun c _ hc => by subst hc; exact .inl htn)
      exact xall.mod.then (m1.weak fun c _ hc => hc.elim .inl fun h1 => .inr (by have := xall.size; omega))
     ·rcases hb with rfl | ⟨z, hz, rfl⟩
      ·exact .inl (.inl rfl)
      ·rw [List.mem_append, List.mem_cons] at hz
       rcases hz with hz | rfl | hz
       ·exact .inl (.inr ⟨z, List.mem_of_mem_take hz, rfl⟩)
       ·exact .inr (by have := xall.size; exact this)
       ·exact .inl (.inr ⟨z, List.mem_of_mem_drop hz, rfl⟩)))
   cases hy : ns[a]? with
   | none =>
    refine PIf.no rfl (hnew ?_)
    rw [hthere, hy]
   | some y =>
    refine PIf.yes rfl ?_
    refine AC.mk (L11.pair hy).1 (AC.mk (AJ hbp rfl) ?_)
    rw [BR]
    by_cases hyk : y.pr.key = x.key
    ·rw [decide_eq_true hyk]; exact hfound y hy hyk
    ·rw [decide_eq_false hyk]; exact hnew (by rw [hthere, hy]; simp [hyk])))
  refine AC.mk (AJ hb rfl) ?_
  refine PIf.intro (fun hq => ?_) (fun hq => ?_)
  ·exact hlong (by simp at hq; simp; omega)
  ·refine AC.mk (AB hb rfl) ?_
   simp at hq
   cases hv : decide ((x.val.size : Int) > (8192 : Int))
   ·exact hok (by simp at hv; simp; omega)
   ·exact hlong (by simp at hv; simp; omega)))
 refine PIf.no rfl ?_
 refine AC.mk (AJ hb rfl) ?_
 rw [BR]
 refine PIf.intro (fun hq => ?_) (fun hq => ?_)
 ·exact hbad (by simp at hq; simp [hq])
 ·refine AY.mk (AB hb rfl) ?_
  simp at hq
  refine PIf.intro (fun hg => ?_) (fun hg => ?_)
  ·refine AC.mk (AB hb rfl) ?_
   rw [BR]
   cases hv : (!decide (x.val = ⟨#[]⟩))
   ·exact hgood (by simp [hq, hg, hv])
   ·exact hbad (by simp [hq, hg, hv])
  ·exact hgood (by simp [hq, hg])
end Go.Lf.G.M

