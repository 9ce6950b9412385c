/-
  The skip list: how it lies, what is before a key.
-/
import Derived.Test.YtdaodhcpiafgfaaLfM9
set_option maxRecDepth 100000
namespace Go.Lf.G
open Go

structure SNode where
  blk : Nat
  pr : Pr
  ht : Nat

def ptrs (nx : Nat → Option Addr) : List Value := (List.range 12).map fun i => .pointer (nx i)
def nodeCells (p : Pr) (nx : Nat → Option Addr) : Array Value := (([.string p.key, .string p.val, .bool p.gone] : List Value) ++ ptrs nx).toArray
def headCells (nx : Nat → Option Addr) (n sz : Int) : Array Value := (([.string ⟨#[]⟩, .string ⟨#[]⟩, .bool false] : List Value) ++ ptrs nx ++ ([.int .i64 n, .int .i64 sz] : List Value)).toArray

theorem ptrs_len (nx : Nat → Option Addr) : (ptrs nx).length = 12 := by simp [ptrs]
theorem ptrs_get {nx : Nat → Option Addr} {i : Nat} (hi : i < 12) : (ptrs nx)[i]? = some (.pointer (nx i)) := by simp [ptrs, hi]
theorem ptrs_set {nx : Nat → Option Addr} {i : Nat} (v : Option Addr) : (ptrs nx).set i (.pointer v) = ptrs (fun k => if k = i then v else nx k) := by
  refine List.ext_getElem? fun k => ?_
  by_cases hk : k < 12
  · rw [List.getElem?_set, ptrs_get hk, ptrs_get hk, ptrs_len]
    by_cases h : i = k
    · subst h; simp [hk]
    · simp [h, Ne.symm h]
  · rw [List.getElem?_eq_none (by simp [ptrs_len]; omega), List.getElem?_eq_none (by simp [ptrs_len]; omega)]

theorem node_get {p : Pr} {nx : Nat → Option Addr} {i : Nat} (hi : i < 12) : (nodeCells p nx)[3 + i]? = some (.pointer (nx i)) := by
  simp only [nodeCells, List.getElem?_toArray]
  rw [List.getElem?_append_right (by simp)]
  simpa using ptrs_get hi
theorem head_get {nx : Nat → Option Addr} {n sz : Int} {i : Nat} (hi : i < 12) : (headCells nx n sz)[3 + i]? = some (.pointer (nx i)) := by
  simp only [headCells, List.getElem?_toArray]
  rw [List.append_assoc, List.getElem?_append_right (by simp), List.getElem?_append_left (by simp [ptrs_len]; omega)]
  simpa using ptrs_get hi
theorem head_n {nx : Nat → Option Addr} {n sz : Int} : (headCells nx n sz)[15]? = some (.int .i64 n) ∧ (headCells nx n sz)[16]? = some (.int .i64 sz) := by
  simp only [headCells, List.getElem?_toArray]
  constructor
  · rw [List.getElem?_append_right (by simp [ptrs_len])]; simp [ptrs_len]
  · rw [List.getElem?_append_right (by simp [ptrs_len])]; simp [ptrs_len]
theorem node_size {p : Pr} {nx : Nat → Option Addr} : (nodeCells p nx).size = 15 := by simp [nodeCells, ptrs_len]
theorem head_size {nx : Nat → Option Addr} {n sz : Int} : (headCells nx n sz).size = 17 := by simp [headCells, ptrs_len]
theorem node_set {p : Pr} {nx : Nat → Option Addr} {i : Nat} (v : Option Addr) : (nodeCells p nx).setIfInBounds (3 + i) (.pointer v) = nodeCells p (fun k => if k = i then v else nx k) := by
  apply Array.toList_inj.1
  rw [Array.toList_setIfInBounds]
  simp only [nodeCells, List.toList_toArray]
  rw [List.set_append_right _ _ (by simp), ← ptrs_set v]
  simp
theorem head_set {nx : Nat → Option Addr} {n sz : Int} {i : Nat} (hi : i < 12) (v : Option Addr) : (headCells nx n sz).setIfInBounds (3 + i) (.pointer v) = headCells (fun k => if k = i then v else nx k) n sz := by
  apply Array.toList_inj.1
  rw [Array.toList_setIfInBounds]
  simp only [headCells, List.toList_toArray]
  rw [List.append_assoc, List.set_append_right _ _ (by simp), List.set_append_left _ _ (by simp [ptrs_len]; omega), ← ptrs_set v]
  simp
theorem head_setn {nx : Nat → Option Addr} {n sz n' : Int} : (headCells nx n sz).setIfInBounds 15 (.int .i64 n') = headCells nx n' sz := by
  apply Array.toList_inj.1
  rw [Array.toList_setIfInBounds]
  simp only [headCells, List.toList_toArray]
  rw [List.set_append_right _ _ (by simp [ptrs_len])]
  simp [ptrs_len]
theorem head_sets {nx : Nat → Option Addr} {n sz s' : Int} : (headCells nx n sz).setIfInBounds 16 (.int .i64 s') = headCells nx n s' := by
  apply Array.toList_inj.1
  rw [Array.toList_setIfInBounds]
  simp only [headCells, List.toList_toArray]
  rw [List.set_append_right _ _ (by simp [ptrs_len])]
  simp [ptrs_len]

theorem hget_ptr {h : Heap} {b i : Nat} {l : Nat → Option Addr} {T : TypeId} {fr : Nat × Nat} (hb : h[b]? = some (.cells (ptrs l).toArray T fr)) (hi : i < 12) : hget h ⟨b, i, none⟩ = some (.pointer (l i)) := by
  rw [hget_cells hb, List.getElem?_toArray]; exact ptrs_get hi
theorem ptrs_congr {f g : Nat → Option Addr} (h : ∀ i, i < 12 → f i = g i) : ptrs f = ptrs g := by
  unfold ptrs
  refine List.map_congr_left fun i hi => ?_
  rw [h i (List.mem_range.1 hi)]

/-! ### how it lies -/
def addrAt (t : Nat) (ns : List SNode) (p : Nat) : Addr := match p with | 0 => ⟨t, 0, none⟩ | p + 1 => match ns[p]? with | some x => ⟨x.blk, 0, none⟩ | none => ⟨t, 0, none⟩
def htAt (ns : List SNode) (p : Nat) : Nat := match p with | 0 => 12 | p + 1 => match ns[p]? with | some x => x.ht | none => 0
def firstAt (i : Nat) (l : List SNode) : Option Addr := (l.find? fun x => decide (i < x.ht)).map fun x => ⟨x.blk, 0, none⟩

/-- the blocks of a table -/
def inT (t : Nat) (ns : List SNode) (b : Nat) : Prop := b = t ∨ ∃ x ∈ ns, x.blk = b

structure Lay (h : Heap) (t : Nat) (ns : List SNode) (nx : Nat → Nat → Option Addr) (n sz : Int) : Prop where
  head : h[t]? = some (.cells (headCells (nx 0) n sz) t_mem_Table (0, 0))
  node : ∀ (j : Nat) (x : SNode), ns[j]? = some x → h[x.blk]? = some (.cells (nodeCells x.pr (nx (j + 1))) t_mem_node (0, 0)) ∧ x.blk ≠ t
  apart : ns.Pairwise fun x y => x.blk ≠ y.blk

structure Links (ns : List SNode) (nx : Nat → Nat → Option Addr) : Prop where
  link : ∀ p i, p ≤ ns.length → i < 12 → i < htAt ns p → nx p i = firstAt i (ns.drop p)
  ht : ∀ x ∈ ns, 1 ≤ x.ht ∧ x.ht ≤ 12

theorem Lay.mod {h h' : Heap} {t : Nat} {ns : List SNode} {nx : Nat → Nat → Option Addr} {n sz : Int} {S : Nat → Prop} (l : Lay h t ns nx n sz) (m : Mod S h h') (hS : ∀ b, inT t ns b → ¬ S b) : Lay h' t ns nx n sz :=
  ⟨m.blk l.head (hS _ (.inl rfl)), fun j x hx => ⟨m.blk (l.node j x hx).1 (hS _ (.inr ⟨x, List.mem_of_getElem? hx, rfl⟩)), (l.node j x hx).2⟩, l.apart⟩
theorem Lay.ext {h h' : Heap} {t : Nat} {ns : List SNode} {nx : Nat → Nat → Option Addr} {n sz : Int} (l : Lay h t ns nx n sz) (m : Ext h h') : Lay h' t ns nx n sz := l.mod m fun _ _ h => h
theorem Lay.lt {h : Heap} {t : Nat} {ns : List SNode} {nx : Nat → Nat → Option Addr} {n sz : Int} (l : Lay h t ns nx n sz) {b : Nat} (hb : inT t ns b) : b < h.size := by
  rcases hb with rfl | ⟨x, hx, rfl⟩
  · exact blk_lt l.head
  · obtain ⟨j, hj, e⟩ := List.getElem_of_mem hx
    exact blk_lt (l.node j x (by rw [List.getElem?_eq_getElem hj, e])).1

/-- the link of a place -/
theorem Lay.next {h : Heap} {t : Nat} {ns : List SNode} {nx : Nat → Nat → Option Addr} {n sz : Int} (l : Lay h t ns nx n sz) {p i : Nat} (hp : p ≤ ns.length) (hi : i < 12) : hget h (((addrAt t ns p).add 3).add (i * 1)) = some (.pointer (nx p i)) := by
  rw [add_add, Nat.mul_one]
  cases p with
  | zero => show hget h ((⟨t, 0, none⟩ : Addr).add (3 + i)) = _; exact hget_lit1 l.head (head_get hi)
  | succ p =>
    have hg := List.getElem?_eq_getElem (l := ns) (i := p) (by omega)
    have e : addrAt t ns (p + 1) = ⟨ns[p].blk, 0, none⟩ := by simp [addrAt, hg]
    rw [e]
    exact hget_lit1 (l.node p _ hg).1 (node_get hi)

theorem Lay.pair {h : Heap} {t : Nat} {ns : List SNode} {nx : Nat → Nat → Option Addr} {n sz : Int} (l : Lay h t ns nx n sz) {j : Nat} {x : SNode} (hx : ns[j]? = some x) :
    hget h ⟨x.blk, 0, none⟩ = some (.string x.pr.key) ∧ hget h ((⟨x.blk, 0, none⟩ : Addr).add 1) = some (.string x.pr.val) ∧ hget h ((⟨x.blk, 0, none⟩ : Addr).add 2) = some (.bool x.pr.gone) := by
  have hb := (l.node j x hx).1
  exact ⟨hget_lit hb rfl, hget_lit1 hb rfl, hget_lit1 hb rfl⟩

theorem firstAt_some {i : Nat} {l : List SNode} {a : Addr} (h : firstAt i l = some a) : ∃ k x, l[k]? = some x ∧ a = ⟨x.blk, 0, none⟩ ∧ i < x.ht ∧ ∀ (j : Nat) (y : SNode), j < k → l[j]? = some y → y.ht ≤ i := by
  induction l with
  | nil => simp [firstAt] at h
  | cons x l ih =>
    unfold firstAt at h
    rw [List.find?_cons] at h
    by_cases hx : i < x.ht
    · simp [hx] at h
      exact ⟨0, x, rfl, h.symm, hx, fun j y hj => by omega⟩
    · simp [hx] at h
      obtain ⟨k, y, h1, h2, h3, h4⟩ := ih (by simpa [firstAt] using h)
      refine ⟨k + 1, y, by simpa using h1, h2, h3, fun j z hj hz => ?_⟩
      cases j with
      | zero => simp at hz; subst hz; omega
      | succ j => exact h4 j z (by omega) (by simpa using hz)
theorem firstAt_none {i : Nat} {l : List SNode} (h : firstAt i l = none) : ∀ x ∈ l, x.ht ≤ i := by
  intro x hx
  simp [firstAt] at h
  exact h x hx
theorem firstAt_skip {i : Nat} {l : List SNode} {k : Nat} (hk : k ≤ l.length) (h : ∀ (j : Nat) (y : SNode), j < k → l[j]? = some y → y.ht ≤ i) : firstAt i l = firstAt i (l.drop k) := by
  induction k generalizing l with
  | zero => simp
  | succ k ih =>
    cases l with
    | nil => simp at hk
    | cons x l =>
      have hx := h 0 x (by omega) rfl
      rw [List.drop_succ_cons, ← ih (by simpa using hk) fun j y hj hy => h (j + 1) y (by omega) (by simpa using hy)]
      unfold firstAt
      rw [List.find?_cons]
      simp [Nat.not_lt.2 hx]

abbrev prs (ns : List SNode) : List Pr := ns.map (·.pr)

/-- what is below a key stands first -/
theorem low_iff {key : ByteArray} : ∀ {l : List Pr}, Sorted l → ∀ {j : Nat} {x : Pr}, l[j]? = some x → (j < atK key l ↔ sLt x.key key = true)
  | [], _, j, x, h => by simp at h
  | y :: l, s, j, x, h => by
    have s' := List.pairwise_cons.1 s
    by_cases hy : sLt y.key key = true
    · have ea : atK key (y :: l) = atK key l + 1 := by simp [atK, lowK, hy]
      rw [ea]
      cases j with
      | zero => simp at h; subst h; simp [hy]
      | succ j =>
        have := low_iff (key := key) s'.2 (j := j) (x := x) (by simpa using h)
        rw [← this]; omega
    · have ea : atK key (y :: l) = 0 := by simp [atK, lowK, hy]
      rw [ea]
      cases j with
      | zero => simp at h; subst h; simp [hy]
      | succ j =>
        have hx : x ∈ l := List.mem_of_getElem? (by simpa using h)
        have h1 := s'.1 x hx
        constructor
        · intro h2; omega
        · intro h2; exact absurd (sLt_trans h1 h2) hy

/-- the places before a key, level by level -/
structure BeforeP (ns : List SNode) (key : ByteArray) (i p : Nat) : Prop where
  le : p ≤ atK key (prs ns)
  ht : i < htAt ns p
  last : ∀ (j : Nat) (y : SNode), p ≤ j → j < atK key (prs ns) → ns[j]? = some y → y.ht ≤ i

theorem atK_len (key : ByteArray) (ns : List SNode) : atK key (prs ns) ≤ ns.length := by have := atK_le key (prs ns); simpa using this

theorem set12 {cs : Array Value} (l : Nat → Option Addr) (e : cs = (ptrs l).toArray) (i : Nat) (v : Option Addr) : cs.setIfInBounds i (.pointer v) = (ptrs (fun k => if k = i then v else l k)).toArray := by
  subst e
  apply Array.toList_inj.1
  rw [Array.toList_setIfInBounds]
  exact ptrs_set v

theorem wrap_pred {n : Nat} (h : n < 100) : IntKind.wrap .i64 (((n + 1 : Nat) : Int) - (1 : Int)) = (n : Int) := by
  rw [show (((n + 1 : Nat) : Int) - 1) = (n : Int) by omega]; exact wrap_nat (by omega)

set_option maxHeartbeats 400000 in
theorem before_ok {A : Amb} {h : Heap} {t : Nat} {ns : List SNode} {nx : Nat → Nat → Option Addr} {n sz : Int} {key : ByteArray} {R : Value → Heap → Prop} (L : Lay h t ns nx n sz) (K : Links ns nx) (s : Sorted (prs ns))
    (H : ∀ (q : Nat → Nat) h', (∀ i, i < 12 → BeforeP ns key i (q i)) → Ext h h' → R (.agg #[.pointer (some (addrAt t ns (q 0))), .pointer (some (addrAt t ns (q 1))), .pointer (some (addrAt t ns (q 2))), .pointer (some (addrAt t ns (q 3))), .pointer (some (addrAt t ns (q 4))), .pointer (some (addrAt t ns (q 5))), .pointer (some (addrAt t ns (q 6))), .pointer (some (addrAt t ns (q 7))), .pointer (some (addrAt t ns (q 8))), .pointer (some (addrAt t ns (q 9))), .pointer (some (addrAt t ns (q 10))), .pointer (some (addrAt t ns (q 11)))]) h') :
    HCalls A P f_mem_Table_before #[.pointer (some ⟨t, 0, none⟩), .string key] h R := by
  refine ok_mem_Table_before ?_
  unfold F_mem_Table_before
  refine New.mk fun h1 _ hb1 x1 hs1 => New.mk fun h2 _ hb2 x2 hs2 => ?_
  have x02 : Ext h h2 := x1.trans x2
  have hak := atK_len key ns
  refine Loop.rule (fun m x h3 => ∃ (p : Nat) (q : Nat → Nat) (l : Nat → Option Addr), x = (some (addrAt t ns p), (m : Int) - 1, ()) ∧ m ≤ 12 ∧ Mod (fun c => c = h1.size) h2 h3 ∧ p ≤ atK key (prs ns) ∧ (m = 0 ∨ m ≤ htAt ns p) ∧
      h3[h1.size]? = some (.cells (ptrs l).toArray t_12_p_mem_node (0, 0)) ∧ (∀ i, i < 12 → m ≤ i → BeforeP ns key i (q i) ∧ l i = some (addrAt t ns (q i)))) ?_
    (m := 12) ⟨0, fun _ => 0, fun _ => none, rfl, by omega, Mod.refl, by omega, .inr (by simp [htAt]), hb2, fun i h1 h2 => by omega⟩
  rintro K0 m _ h3 ⟨p, q, l, rfl, hm, md, hp, hht, hbl, hq⟩ hK
  have xm : Ext h h3 := x02.then (md.weak fun c _ hc => .inr (by have := x1.size; omega))
  refine PIf.intro (fun hc => ?_) (fun hc => ?_)
  · cases m with
    | zero => simp at hc
    | succ i =>
      have hi : i < 12 := by omega
      have hii : (((i + 1 : Nat) : Int) - 1) = (i : Int) := by omega
      rw [hii]
      have L3 := L.ext xm
      refine Loop.rule (fun m x h4 => ∃ p : Nat, x = (some (addrAt t ns p), ()) ∧ h4 = h3 ∧ m = atK key (prs ns) - p ∧ p ≤ atK key (prs ns) ∧ i < htAt ns p) ?_ ⟨p, rfl, rfl, rfl, hp, by rcases hht with h | h <;> omega⟩
      rintro K1 m _ h4 ⟨p, rfl, hh, rfl, hp, hht⟩ hK1
      subst hh
      have hnx : nx p i = firstAt i (ns.drop p) := K.link p i (by omega) hi hht
      have hget := L3.next (p := p) (i := i) (by omega) hi
      refine Join.mk fun K2 hK2 => ?_
      have hchk : (0 : Int) ≤ (i : Int) ∧ (i : Int) < (12 : Int) := ⟨by omega, by omega⟩
      have hend : (∀ (j : Nat) (y : SNode), p ≤ j → j < atK key (prs ns) → ns[j]? = some y → y.ht ≤ i) → K2 (false, ()) h4 := fun hl => hK2 _ _ (PIf.no rfl (by
        refine ⟨hchk, ?_⟩
        show Store h4 ((⟨h1.size, 0, none⟩ : Addr).add (i * 1)) _ _
        rw [add_mk, Nat.zero_add, Nat.mul_one]
        refine Store.mk hbl (by simp [ptrs_len]; omega) fun h6 hb6 m6 hs6 => ?_
        rw [set12 l rfl] at hb6
        have hbp : BeforeP ns key i p := ⟨hp, hht, hl⟩
        refine hK i _ _ (by omega) ⟨p, fun k => if k = i then p else q k, _, ?_, by omega, md.trans m6, hp, .inr (by omega), hb6, fun k hk hik => ?_⟩
        · cases i with
          | zero => rfl
          | succ i => rw [wrap_pred (by omega), show (((i + 1 : Nat) : Int) - 1) = (i : Int) by omega]
        · by_cases hki : k = i
          · subst hki; simp [hbp]
          · simp [hki]; exact hq k hk (by omega)))
      refine ⟨hchk, ?_⟩
      rw [Int.toNat_natCast]
      refine LoadP.mk hget ?_
      cases hf : nx p i with
      | none =>
        refine PIf.no rfl ?_
        refine hend fun j y hj hja hy => ?_
        rw [hnx] at hf
        refine firstAt_none hf y ?_
        rw [List.mem_drop_iff_getElem]
        have := List.getElem?_eq_some_iff.1 hy
        exact ⟨j - p, by omega, by rw [← this.2]; congr 1; omega⟩
      | some a =>
        refine PIf.yes rfl ?_
        refine ⟨hchk, LoadP.mk (hf ▸ hget) ?_⟩
        rw [hnx] at hf
        obtain ⟨k, x, hk, rfl, hxh, hbel⟩ := firstAt_some hf
        rw [List.getElem?_drop] at hk
        refine LoadS.mk (L3.pair hk).1 ?_
        have hpk : (prs ns)[p + k]? = some x.pr := by simp [prs, hk]
        have hlow := low_iff (key := key) s hpk
        cases hs : sLt x.pr.key key
        · refine hend fun j y hj hja hy => ?_
          have hjk : j < p + k := by
            rcases Nat.lt_or_ge j (p + k) with h1 | h1
            · exact h1
            · have h2 : p + k < atK key (prs ns) := by omega
              rw [hlow.1 h2] at hs; cases hs
          exact hbel (j - p) y (by omega) (by rw [List.getElem?_drop]; rw [← hy]; congr 1; omega)
        · have h2 := hlow.2 hs
          refine hK2 _ _ (PIf.yes rfl ?_)
          refine ⟨hchk, LoadP.mk (hf ▸ hnx ▸ hget) ?_⟩
          have ea : addrAt t ns (p + k + 1) = ⟨x.blk, 0, none⟩ := by simp [addrAt, hk]
          refine hK1 (atK key (prs ns) - (p + k + 1)) _ _ (by omega) ⟨p + k + 1, by rw [ea], rfl, rfl, by omega, by simp [htAt, hk, hxh]⟩
  · have hm0 : m = 0 := by simp at hc; omega
    subst hm0
    have hb0 : h3[h.size]? = some (.cells (ptrs (fun _ => none)).toArray t_12_p_mem_node (0, 0)) := md.blk (x2.blk hb1 (by simp)) (by omega)
    simp only [add_mk, Nat.zero_add]
    refine LoadP.mk (hget_ptr hbl (i := 0) (by omega)) ?_
    refine LoadP.mk (hget_ptr hbl (i := 1) (by omega)) ?_
    refine LoadP.mk (hget_ptr hbl (i := 2) (by omega)) ?_
    refine LoadP.mk (hget_ptr hbl (i := 3) (by omega)) ?_
    refine LoadP.mk (hget_ptr hbl (i := 4) (by omega)) ?_
    refine LoadP.mk (hget_ptr hbl (i := 5) (by omega)) ?_
    refine LoadP.mk (hget_ptr hbl (i := 6) (by omega)) ?_
    refine LoadP.mk (hget_ptr hbl (i := 7) (by omega)) ?_
    refine LoadP.mk (hget_ptr hbl (i := 8) (by omega)) ?_
    refine LoadP.mk (hget_ptr hbl (i := 9) (by omega)) ?_
    refine LoadP.mk (hget_ptr hbl (i := 10) (by omega)) ?_
    refine LoadP.mk (hget_ptr hbl (i := 11) (by omega)) ?_
    refine Store.mk hb0 (by simp [ptrs_len]) fun g0 b0 m0 s0 => ?_
    rw [set12 _ rfl] at b0
    refine Store.mk b0 (by simp [ptrs_len]) fun g1 b1 m1 s1 => ?_
    rw [set12 _ rfl] at b1
    refine Store.mk b1 (by simp [ptrs_len]) fun g2 b2 m2 s2 => ?_
    rw [set12 _ rfl] at b2
    refine Store.mk b2 (by simp [ptrs_len]) fun g3 b3 m3 s3 => ?_
    rw [set12 _ rfl] at b3
    refine Store.mk b3 (by simp [ptrs_len]) fun g4 b4 m4 s4 => ?_
    rw [set12 _ rfl] at b4
    refine Store.mk b4 (by simp [ptrs_len]) fun g5 b5 m5 s5 => ?_
    rw [set12 _ rfl] at b5
    refine Store.mk b5 (by simp [ptrs_len]) fun g6 b6 m6 s6 => ?_
    rw [set12 _ rfl] at b6
    refine Store.mk b6 (by simp [ptrs_len]) fun g7 b7 m7 s7 => ?_
    rw [set12 _ rfl] at b7
    refine Store.mk b7 (by simp [ptrs_len]) fun g8 b8 m8 s8 => ?_
    rw [set12 _ rfl] at b8
    refine Store.mk b8 (by simp [ptrs_len]) fun g9 b9 m9 s9 => ?_
    rw [set12 _ rfl] at b9
    refine Store.mk b9 (by simp [ptrs_len]) fun g10 b10 m10 s10 => ?_
    rw [set12 _ rfl] at b10
    refine Store.mk b10 (by simp [ptrs_len]) fun g11 b11 m11 s11 => ?_
    rw [set12 _ rfl] at b11
    have bb : g11[h.size]? = some (.cells (ptrs l).toArray t_12_p_mem_node (0, 0)) := by
      rw [b11]
      congr 3
    refine LoadP.mk (hget_ptr bb (i := 0) (by omega)) ?_
    refine LoadP.mk (hget_ptr bb (i := 1) (by omega)) ?_
    refine LoadP.mk (hget_ptr bb (i := 2) (by omega)) ?_
    refine LoadP.mk (hget_ptr bb (i := 3) (by omega)) ?_
    refine LoadP.mk (hget_ptr bb (i := 4) (by omega)) ?_
    refine LoadP.mk (hget_ptr bb (i := 5) (by omega)) ?_
    refine LoadP.mk (hget_ptr bb (i := 6) (by omega)) ?_
    refine LoadP.mk (hget_ptr bb (i := 7) (by omega)) ?_
    refine LoadP.mk (hget_ptr bb (i := 8) (by omega)) ?_
    refine LoadP.mk (hget_ptr bb (i := 9) (by omega)) ?_
    refine LoadP.mk (hget_ptr bb (i := 10) (by omega)) ?_
    refine LoadP.mk (hget_ptr bb (i := 11) (by omega)) ?_
    have mall := ((((((((((m0.trans m1).trans m2).trans m3).trans m4).trans m5).trans m6).trans m7).trans m8).trans m9).trans m10).trans m11
    have := H q g11 (fun i hi => (hq i hi (by omega)).1) (xm.then (mall.weak fun c _ hc => .inr (by omega)))
    rw [(hq 0 (by omega) (by omega)).2, (hq 1 (by omega) (by omega)).2, (hq 2 (by omega) (by omega)).2, (hq 3 (by omega) (by omega)).2, (hq 4 (by omega) (by omega)).2, (hq 5 (by omega) (by omega)).2, (hq 6 (by omega) (by omega)).2, (hq 7 (by omega) (by omega)).2, (hq 8 (by omega) (by omega)).2, (hq 9 (by omega) (by omega)).2, (hq 10 (by omega) (by omega)).2, (hq 11 (by omega) (by omega)).2]
    exact this
end Go.Lf.G
