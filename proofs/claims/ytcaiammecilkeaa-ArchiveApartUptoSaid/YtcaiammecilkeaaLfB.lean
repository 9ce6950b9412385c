/-
  LIFT, part B: the text's order serves every order: from FA to the region's wp.
-/
import Derived.Test.YtcaiammecilkeaaLfA
namespace Go.Lf
section
variable {P : Program} {A : Amb} {r : Option Nat} {ops : Array Oper} {qb : Oper → Bool} {ord : Nat → Nat → Bool}

def left (n : Nat) (listed : Array Bool) : List Nat := (List.range n).filter fun i => !listed.getD i false

theorem mem_left {n : Nat} {listed : Array Bool} {i : Nat} : i ∈ left n listed ↔ i < n ∧ listed.getD i false = false := by
  simp [left]

theorem range_split {n i : Nat} (h : i < n) : List.range n = List.range i ++ i :: (List.range' (i + 1) (n - i - 1)) := by
  rw [List.range_eq_range', List.range_eq_range']
  have h1 : List.range' 0 n = List.range' 0 i ++ List.range' i (n - i) := by
    have := List.range'_append_1 (s := 0) (m := i) (n := n - i)
    rw [Nat.zero_add] at this
    rw [this]
    congr 1
    omega
  rw [h1]
  congr 1
  have h2 : n - i = (n - i - 1) + 1 := by omega
  rw [h2, List.range'_succ]
  simp

theorem left_split {n i : Nat} {listed : Array Bool} (hi : i < n) (hs : listed.size = n) (hl : listed.getD i false = false) :
    ∃ pre post, left n listed = pre ++ i :: post ∧ left n (listed.setIfInBounds i true) = pre ++ post ∧ ∀ j ∈ pre, j < i ∧ listed.getD j false = false := by
  refine ⟨(List.range i).filter fun j => !listed.getD j false, (List.range' (i + 1) (n - i - 1)).filter fun j => !listed.getD j false, ?_, ?_, ?_⟩
  · unfold left
    rw [range_split hi, List.filter_append, List.filter_cons]
    simp only [hl, Bool.not_false, if_true]
  · unfold left
    have ht : (listed.setIfInBounds i true).getD i false = true := by
      have : i < listed.size := by omega
      simp [this]
    rw [range_split hi, List.filter_append, List.filter_cons]
    simp only [ht, Bool.not_true, Bool.false_eq_true, if_false]
    congr 1
    · refine List.filter_congr fun j hj => ?_
      have := List.mem_range.1 hj
      rw [getD_set_ne false (by omega)]
    · refine List.filter_congr fun j hj => ?_
      have := (List.mem_range'_1.1 hj).1
      rw [getD_set_ne false (by omega)]
  · intro j hj
    simp only [List.mem_filter, List.mem_range, Bool.not_eq_true'] at hj
    exact hj

def Closed (ord : Nat → Nat → Bool) (listed : Array Bool) : Prop := ∀ k j, listed.getD k false = true → j < k → ord k j = true → listed.getD j false = true

theorem floatB_spec (h : floatB ops qb ord = true) : (∀ (i : Nat) (o : Oper), ops[i]? = some o → notDefer o = true) ∧
    (∀ (i : Nat) (o : Oper), ops[i]? = some o → ∀ e ∈ o.after, Region.binds .any e = true → e.on < i) ∧
    (∀ (i j : Nat) (oi oj : Oper), ops[i]? = some oi → ops[j]? = some oj → j < i →
      (ord i j = true ∧ ∃ e ∈ oi.after, Region.binds .any e = true ∧ (e.on = j ∨ (j < e.on ∧ ord e.on j = true))) ∨ (ord i j = false ∧ oi.apart ops oj = true ∧ (qb oi = true ∨ qb oj = true))) := by
  unfold floatB at h
  simp only [Bool.and_eq_true, List.all_eq_true, List.mem_range] at h
  obtain ⟨h1, h2⟩ := h
  refine ⟨fun i o ho => h1 o (by rw [Array.mem_toList_iff]; exact Array.mem_of_getElem? ho), fun i o ho e he hb => ?_, fun i j oi oj hi hj hji => ?_⟩
  · have hlt : i < ops.size := (Array.getElem?_eq_some_iff.1 ho).1
    have := h2 i hlt
    rw [ho] at this
    simp only [Bool.and_eq_true, List.all_eq_true, Bool.or_eq_true, Bool.not_eq_true', decide_eq_true_eq] at this
    exact (this.1 e (by simpa using he)).resolve_left (by simp [hb])
  · have hlt : i < ops.size := (Array.getElem?_eq_some_iff.1 hi).1
    have := h2 i hlt
    rw [hi] at this
    simp only [Bool.and_eq_true, List.all_eq_true, List.mem_range] at this
    have := this.2 j hji
    rw [hj] at this
    simp only at this
    cases ho : ord i j with
    | true =>
      rw [ho] at this
      simp only [if_true, List.any_eq_true, Bool.and_eq_true, Bool.or_eq_true, beq_iff_eq, decide_eq_true_eq] at this
      obtain ⟨e, he, hb, hx⟩ := this
      exact .inl ⟨rfl, e, by simpa using he, hb, hx⟩
    | false =>
      rw [ho] at this
      simp only [Bool.false_eq_true, if_false, Bool.and_eq_true, Bool.or_eq_true] at this
      exact .inr ⟨rfl, this.1, this.2⟩

theorem getD_eq {listed : Array Bool} {i : Nat} (h : i < listed.size) : listed.getD i true = listed.getD i false := by simp [h]

theorem notSelect_of {o : Oper} (h : notDefer o = true) : notSelect o := fun cs b hc => by simp [notDefer, hc] at h

theorem FA.any {m : Nat} {Q : Act → Heap → Prop} {Qe : Exit → Act → World → Prop} (hQ : ∀ a h n, Q a h → Qe .normal a (A.at h n)) (hfl : floatB ops qb ord = true) :
    ∀ (fuel : Nat) (listed : Array Bool) (a : Act) (h : Heap) (pend : List (Nat × (Heap → Prop))) (pres : List (Nat × Heap)), (left ops.size listed).length = fuel → listed.size = ops.size →
      Closed ord listed → FA P A ops qb ord Q (left ops.size listed) a h pend pres → ∀ n, wpAnyIn (Fw r) m P .any ops Qe fuel listed a (A.at h n) := by
  obtain ⟨hnd, hback, hpair⟩ := floatB_spec hfl
  intro fuel
  induction fuel with
  | zero =>
    intro listed a h pend pres hl hs _ H n
    have he : left ops.size listed = [] := List.eq_nil_of_length_eq_zero hl
    refine ⟨?_, ?_⟩
    · rcases hr : Region.ready .any ops listed with _ | ⟨i, t⟩
      · rfl
      · exfalso
        have hi : i ∈ Region.ready .any ops listed := by rw [hr]; exact List.mem_cons_self
        obtain ⟨h0, o, ho, _⟩ := mem_ready.1 hi
        have hlt : i < ops.size := (Array.getElem?_eq_some_iff.1 ho).1
        have : i ∈ left ops.size listed := mem_left.2 ⟨hlt, by rw [← getD_eq (by omega)]; exact h0⟩
        rw [he] at this
        cases this
    · rw [he] at H
      exact hQ _ _ _ H
  | succ fuel ih =>
    intro listed a h pend pres hl hs hcl H n
    refine ⟨fun hr => ?_, fun i hi => ?_⟩
    · exfalso
      -- the least one that is left is ready
      have hex : ∀ k i, i < k → i ∈ left ops.size listed → False := by
        intro k
        induction k with
        | zero => intro i hi; omega
        | succ k ihk =>
          intro i _ hi
          obtain ⟨hlt, h0⟩ := mem_left.1 hi
          have ho : ops[i]? = some ops[i] := Array.getElem?_eq_getElem hlt
          by_cases hall : ∀ e ∈ ops[i].after, Region.binds .any e = true → listed.getD e.on false = true
          · have : i ∈ Region.ready .any ops listed := mem_ready.2 ⟨by rw [getD_eq (by omega)]; exact h0, _, ho, hall⟩
            rw [hr] at this
            cases this
          · simp only [Classical.not_forall] at hall
            obtain ⟨e, he, hb, hne⟩ := hall
            have hlt' := hback i _ ho e he hb
            exact ihk e.on (by omega) (mem_left.2 ⟨by omega, by simpa using hne⟩)
      have hne : left ops.size listed ≠ [] := by intro e; rw [e] at hl; simp at hl
      obtain ⟨i, hi⟩ := List.exists_mem_of_ne_nil _ hne
      exact hex (i + 1) i (by omega) hi
    · obtain ⟨h0, oi, hoi, hall⟩ := mem_ready.1 hi
      have hlt : i < ops.size := (Array.getElem?_eq_some_iff.1 hoi).1
      have h0' : listed.getD i false = false := by rw [← getD_eq (by omega)]; exact h0
      obtain ⟨pre, post, e1, e2, hpre⟩ := left_split hlt hs h0'
      rw [e1] at H
      have hord : ∀ j, j < i → listed.getD j false = false → ord i j = false := by
        intro j hj hlj
        have hj' : ops[j]? = some ops[j] := Array.getElem?_eq_getElem (by omega)
        rcases hpair i j oi _ hoi hj' hj with ⟨_, e, he, hb, hx⟩ | ⟨hx, _⟩
        · exfalso
          have hle := hall e he hb
          rcases hx with rfl | ⟨hlt2, ho2⟩
          · rw [hle] at hlj; cases hlj
          · have := hcl e.on j hle hlt2 ho2
            rw [this] at hlj; cases hlj
        · exact hx
      have H2 := FA.front (Q := Q) (qb := qb) (ord := ord) (P := P) (A := A) (ops := ops) pre (fun j hj => by
        obtain ⟨hj1, hj2⟩ := hpre j hj
        have hj' : ops[j]? = some ops[j] := Array.getElem?_eq_getElem (by omega)
        have ho := hord j hj1 hj2
        rcases hpair i j oi _ hoi hj' hj1 with ⟨hx, _⟩ | ⟨_, hap, hef⟩
        · rw [ho] at hx; cases hx
        · refine ⟨oi, _, hoi, hj', hap, notSelect_of (hnd i oi hoi), notSelect_of (hnd j _ hj'), ?_, hef⟩
          unfold un
          rw [Nat.max_eq_left (by omega), Nat.min_eq_right (by omega), ho]
          rfl) a h pend pres H
      have hcl' : Closed ord (listed.setIfInBounds i true) := by
        intro k j hk hjk ho
        by_cases hji : j = i
        · subst hji; have : j < listed.size := by omega
          simp [this]
        · rw [getD_set_ne false (Ne.symm hji)]
          by_cases hki : k = i
          · subst hki
            cases hlj : listed.getD j false with
            | true => rfl
            | false => rw [hord j hjk hlj] at ho; cases ho
          · rw [getD_set_ne false (Ne.symm hki)] at hk
            exact hcl k j hk hjk ho
      have hlen : (left ops.size (listed.setIfInBounds i true)).length = fuel := by
        rw [e2]; rw [e1] at hl; simp only [List.length_append, List.length_cons] at hl ⊢; omega
      have hs' : (listed.setIfInBounds i true).size = ops.size := by simp [hs]
      rw [← e2] at H2
      unfold FA at H2
      rw [hoi] at H2
      unfold wpOpIn
      simp only [hoi]
      split
      · rename_i hw
        simp only [hw, if_true] at H2
        by_cases hq : qb oi = true
        · rw [if_pos hq] at H2
          obtain ⟨v, hv, _, H2⟩ := H2
          refine EV.wpIn (hnd i oi hoi) ?_
          unfold EV
          rw [hv n]
          exact ih _ _ _ _ _ hlen hs' hcl' H2 n
        · rw [if_neg hq] at H2
          refine EV.wpIn (hnd i oi hoi) ((H2 n).mono ?_)
          rintro v w' ⟨h', n', rfl, _, H3⟩
          exact ih _ _ _ _ _ hlen hs' hcl' H3 n'
      · rename_i hw
        simp only at H2
        rw [if_neg hw] at H2
        exact ⟨fun _ _ => trivial, ih _ _ _ _ _ hlen hs' hcl' H2 n⟩

theorem left_all (n : Nat) : left n (Array.replicate n false) = List.range n := by
  unfold left
  rw [List.filter_eq_self]
  intro i _
  by_cases h : i < n <;> simp [h]

theorem wpIn_region_float {id m : Nat} {Q : Act → Heap → Prop} {Qe : Exit → Act → World → Prop} (hQ : ∀ a h n, Q a h → Qe .normal a (A.at h n)) (hm : P.follows .mixedOrders = true)
    (hfl : floatB ops qb ord = true) {a : Act} {h : Heap} {n : Nat} (H : FA P A ops qb ord Q (List.range ops.size) a h [] []) : (Code.region id ops true).wpIn (Fw r) m P Qe a (A.at h n) := by
  refine wpIn_region_any hm ?_
  have hl := left_all ops.size
  refine FA.any (Q := Q) (ord := ord) (qb := qb) (pend := []) (pres := []) hQ hfl _ _ _ h (by rw [hl]; simp) (by simp) ?_ (by rw [hl]; exact H) (n + 1)
  intro k j hk
  exfalso
  by_cases h : k < ops.size <;> simp [h] at hk
end
end Go.Lf
