/-
  Rows: arguments opened (any lists), what is asked behind the call.
-/
import Derived.Test.YtcaiammecilkeaaLfG1
import Derived.Test.YtcaiammecilkeaaLfKToU1
import Derived.Test.YtcaiammecilkeaaRows
import Derived.WalkKit
import Derived.ProofKit
import Derived.OpenShut
import Derived.JoinedCond
import Derived.Deep.Slices
import Derived.Carry
import Derived.Laws.FloatArith
set_option maxRecDepth 100000
set_option linter.unusedVariables false
set_option linter.unusedSimpArgs false
namespace Go.Lf.G
open Go Go.ChangeShapes Go.WideShapes Go.ChangeAt Go.RowKit Go.Proofs.Ytcaiammecilkeaa

theorem bulk_one {H : Type} (d : DataW H) : 1 ≤ Rows.uptoBulk d := by
  cases d with
  | lit l => cases l <;> simp [Rows.uptoBulk]
  | nil => simp [Rows.uptoBulk]
  | ptr d => simp [Rows.uptoBulk]
  | slice elems spare => simp [Rows.uptoBulk]
  | agg parts => simp [Rows.uptoBulk]
  | iface t d => simp [Rows.uptoBulk]
  | map entries => simp [Rows.uptoBulk]
  | held h => simp [Rows.uptoBulk]

theorem bulk_len {H : Type} (l : List (DataW H)) : l.length ≤ Rows.uptoBulkAll l := by
  induction l with
  | nil => simp [Rows.uptoBulkAll]
  | cons x r ih => have := bulk_one x; simp only [Rows.uptoBulkAll, List.length_cons]; omega

theorem bulk_append {H : Type} (l r : List (DataW H)) : Rows.uptoBulkAll (l ++ r) = Rows.uptoBulkAll l + Rows.uptoBulkAll r := by
  induction l with
  | nil => simp [Rows.uptoBulkAll]
  | cons x l ih => simp only [List.cons_append, Rows.uptoBulkAll, ih]; omega

theorem stays_all {H : Type} {enc : TypeId × Value → H} {P : Program} (hl : laidOutB P = true) {W W' : World} {sp : Nat → Bool} : ∀ {ts : List TypeId} {vs : List Value} {ds : List (DataW H)} {ps : List MemPlace},
    (ts.all fun t => P.readableRec t && decide (t < P.types.size)) = true → DataW.TrodAll enc P W 0 (fun _ => true) true ts vs ds ps → (∀ p ∈ ps, W.sameAt W' p) → (∀ p ∈ ps, sp p.block = true) → DataW.TrodAll enc P W' 0 sp true ts vs ds ps
  | [], [], [], _, _, h, _, _ => h
  | t :: ts, v :: vs, d :: ds, _, hr, ⟨p, q, h1, h2, e⟩, hs, hsp => by
    simp only [List.all_cons, Bool.and_eq_true, decide_eq_true_eq] at hr
    subst e
    exact ⟨p, q, WideElems.Trod_stays hl hr.1.1 hr.1.2 h1 (fun x hx => hs x (List.mem_append_left _ hx)) (fun x hx => hsp x (List.mem_append_left _ hx)),
      stays_all hl (by simpa using hr.2) h2 (fun x hx => hs x (List.mem_append_right _ hx)) (fun x hx => hsp x (List.mem_append_right _ hx)), rfl⟩

/-- the world of a call, in parts -/
def ambOf (W : World) : Amb := ⟨W.tape, W.os, W.output⟩
theorem ambOf_at (W : World) : (ambOf W).at W.heap W.drawn = W := rfl

theorem row_post {H : Type} {enc : TypeId × Value → H} {P : Program} {f : Func} {s : ChangeSpec} {W : World} {args : Array Value} {ds gs : List (DataW H)} {before : List MemPlace} {tb : TypeId} {h' : Heap} {n' : Nat}
    (hW : DataW.Whole enc P f.params.toList s.vars false W args.toList ds gs before) (hvars : s.vars = []) (hres : (s.fn H (ds ++ gs)).results = [.lit (.bool true)]) (hargs : (s.fn H (ds ++ gs)).args = ds) (hvs : (s.fn H (ds ++ gs)).vars = [])
    (hl : laidOutB P = true) (hp : (f.params.toList.all fun t => P.readableRec t && decide (t < P.types.size)) = true) (hr : f.resultTypes = #[tb]) (hb : P.underlying tb = some .bool) (x : Ext W.heap h') :
    s.post enc P f false true false false W args (.bool true) ((ambOf W).at h' n') := by
  have hlt := fun p (hp : p ∈ before) => hW.lt p hp
  have hsame : ∀ p ∈ before, W.sameAt ((ambOf W).at h' n') p := fun p hp => by
    have hb2 : h'[p.block]? = W.heap[p.block]? := x.get _ (hlt p hp) (fun h => h)
    cases p with
    | cell b off =>
      show hget h' ⟨b, off, none⟩ = hget W.heap ⟨b, off, none⟩
      exact hget_blk hb2
    | map b => exact hb2
  obtain ⟨p, q, hA, hV, rfl, hz, hn⟩ := id hW
  rw [hvars] at hV
  have hgs : gs = [] ∧ q = [] := by
    cases gs with
    | nil => exact ⟨rfl, hV⟩
    | cons _ _ => exact hV.elim
  obtain ⟨rfl, rfl⟩ := hgs
  refine ⟨ds, [], p ++ [], [], p, [], hW, ?_, ?_, ?_, ?_, fun h => by cases h⟩
  · rw [hres, hr]
    exact ⟨[], [], ⟨1, by simp [DataW.trod, Value.cells, hb]⟩, rfl, rfl⟩
  · rw [hargs]
    exact stays_all hl hp hA (fun y hy => hsame y (List.mem_append_left _ hy)) (fun y hy => by simpa using hlt y (List.mem_append_left _ hy))
  · rw [hvars, hvs]; rfl
  · refine ⟨rfl, rfl, fun i hi => ?_⟩
    have e : ((ambOf W).at h' n').heap[i]? = W.heap[i]? := x.get i hi (fun h => h)
    rw [e]
    cases h1 : W.heap[i]? with
    | none => trivial
    | some o =>
      cases o with
      | cells c t fr => exact ⟨rfl, rfl, rfl, fun _ _ => rfl⟩
      | map es clock => exact .inr ⟨rfl, rfl⟩
      | _ => rfl


theorem laid : laidOutB P = true := by kernel_rfl

section
variable {H : Type} {enc : TypeId × Value → H} {w : World} {base : Nat} {spare : Nat → Bool} {held : Bool}

/-- a list's elements opened, each beside its datum -/
theorem open_sl {α : Type} {E : Enc α} {Q : α → DataW H → Prop} {tS t : TypeId} (hT : P.underlying tS = some (.slice t)) (hc : P.cellsOf t = E.w)
    (hel : ∀ n cs x, DataW.trod enc P w base spare held n t cs = some x → ∃ y : α, cs = E.enc y ∧ Q y x.1) {n : Nat} {p : Option Addr} {len cap : Nat} {x : DataW H × List MemPlace} (h : DataW.trod enc P w base spare held n tS [.slice p len cap] = some x) :
    ∃ (l : List α) (ds : List (DataW H)), View E w.heap ⟨p, len, cap⟩ l ∧ l.length = ds.length ∧ (∀ (i : Nat) y d, l[i]? = some y → ds[i]? = some d → Q y d) ∧ Rows.uptoBulkAll ds + 1 ≤ Rows.uptoBulk x.1 := by
  rcases Deep.open_slice hT h with ⟨h0, rfl⟩ | ⟨a, len', cap', m, n', D, Pl, h0, _, hl, _, hm, rfl, hx⟩
  · simp at h0
    obtain ⟨rfl, rfl, rfl⟩ := h0
    exact ⟨[], [], View.nil, rfl, by simp, by simp [Rows.uptoBulk, Rows.uptoBulkAll]⟩
  · simp at h0
    obtain ⟨rfl, rfl, rfl⟩ := h0
    have hlm : len ≤ m := by rw [hm]; split <;> omega
    rw [hc] at hx
    have : ∀ i, i < len → ∃ y : α, Cells w.heap (a.add (i * E.w)) (E.enc y) ∧ Q y (D i) := fun i hi => by
      obtain ⟨cs', h1, h2⟩ := hx i (by omega)
      obtain ⟨y, rfl, hq⟩ := hel _ _ _ h2
      obtain ⟨_, hlen, hcc⟩ := World.cells?_some h1
      refine ⟨y, fun j v hj => ?_, hq⟩
      have hj3 : j < E.w := by rw [← E.len y]; exact (List.getElem?_eq_some_iff.1 hj).1
      have := hcc j hj3
      rw [hj] at this
      exact this
    by_cases hlen : len = 0
    · subst hlen
      refine ⟨[], [], ⟨rfl, hl, fun i y hi => by simp at hi⟩, rfl, by simp, ?_⟩
      simp [Rows.uptoBulk, Rows.uptoBulkAll]
    · obtain ⟨y0, _⟩ := this 0 (by omega)
      have : ∃ f : Nat → α, ∀ i, i < len → Cells w.heap (a.add (i * E.w)) (E.enc (f i)) ∧ Q (f i) (D i) :=
        ⟨fun i => if hi : i < len then Classical.choose (this i hi) else y0, fun i hi => by simp only [dif_pos hi]; exact Classical.choose_spec (this i hi)⟩
      obtain ⟨f, hf⟩ := this
      refine ⟨(List.range len).map f, (List.range len).map D, ⟨by simp, hl, fun i y hi => ?_⟩, by simp, fun i y d h1 h2 => ?_, ?_⟩
      · simp only [List.getElem?_map] at hi
        by_cases hil : i < len
        · simp [hil] at hi
          subst hi
          exact ⟨a, rfl, (hf i hil).1⟩
        · simp [Nat.not_lt.1 hil] at hi
      · simp only [List.getElem?_map] at h1 h2
        by_cases hil : i < len
        · simp [hil] at h1 h2
          subst h1; subst h2
          exact (hf i hil).2
        · simp [Nat.not_lt.1 hil] at h1
      · simp only [Rows.uptoBulk]
        omega
end

/-- a measure of the elements, summed -/
theorem sum_bulk {H α : Type} {f : α → Nat} : ∀ {l : List α} {ds : List (DataW H)}, l.length = ds.length → (∀ (i : Nat) y d, l[i]? = some y → ds[i]? = some d → f y ≤ Rows.uptoBulk d) → (l.map f).sum ≤ Rows.uptoBulkAll ds
  | [], _, _, _ => by simp
  | x :: l, [], h, _ => by simp at h
  | x :: l, d :: ds, h, hq => by
    have h1 := hq 0 x d rfl rfl
    have h2 := sum_bulk (f := f) (l := l) (ds := ds) (by simpa using h) (fun i y d h1 h2 => hq (i + 1) y d (by simpa using h1) (by simpa using h2))
    simp only [List.map_cons, List.sum_cons, Rows.uptoBulkAll]
    omega
theorem mem_bulk {H α : Type} {Q : α → DataW H → Prop} {l : List α} {ds : List (DataW H)} (hl : l.length = ds.length) (hq : ∀ (i : Nat) y d, l[i]? = some y → ds[i]? = some d → Q y d) {y : α} (hy : y ∈ l) : ∃ d ∈ ds, Q y d := by
  obtain ⟨i, hi, rfl⟩ := List.getElem_of_mem hy
  have hi2 : i < ds.length := by omega
  exact ⟨ds[i], List.getElem_mem hi2, hq i _ _ (List.getElem?_eq_getElem hi) (List.getElem?_eq_getElem hi2)⟩

theorem P_int : P.underlying t_int = some (.int .i64) := by kernel_rfl
theorem P_bool : P.underlying t_bool = some .bool := by kernel_rfl
theorem P_str' : P.underlying t_string = some .string := by kernel_rfl
theorem P_slstr : P.underlying t_sl_string = some (.slice t_string) := by kernel_rfl
theorem P_slint : P.underlying t_sl_int = some (.slice t_int) := by kernel_rfl
theorem P_cs : P.cellsOf t_string = 1 := by kernel_rfl
theorem P_ci : P.cellsOf t_int = 1 := by kernel_rfl

theorem wf_i64 {n : Int} (h : (Lit.int .i64 n).wf = true) : -9223372036854775808 ≤ n ∧ n ≤ 9223372036854775807 := by
  simp [Lit.wf, IntKind.min, IntKind.max, IntKind.bits, IntKind.signed] at h
  omega

section
variable {H : Type} {enc : TypeId × Value → H} {w : World} {base : Nat} {spare : Nat → Bool} {held : Bool}
theorem open_strs {n : Nat} {p : Option Addr} {len cap : Nat} {x : DataW H × List MemPlace} (h : DataW.trod enc P w base spare held n t_sl_string [.slice p len cap] = some x) :
    ∃ l : List ByteArray, View StrE w.heap ⟨p, len, cap⟩ l ∧ (l.map (·.size + 1)).sum + 1 ≤ Rows.uptoBulk x.1 := by
  obtain ⟨l, ds, V, hl, hq, hb⟩ := open_sl (E := StrE) (Q := fun y d => y.size + 1 ≤ Rows.uptoBulk d) P_slstr P_cs (fun n cs x hx => by
    obtain ⟨s, h1, h2, h3⟩ := DataW.trod_string P_str' hx
    refine ⟨s, h1, ?_⟩
    rw [h2]
    have : s.data.toList.length = s.size := by rw [Array.length_toList]; rfl
    simp only [Rows.uptoBulk]
    omega) h
  have := sum_bulk hl hq
  exact ⟨l, V, by omega⟩
theorem open_ints {n : Nat} {p : Option Addr} {len cap : Nat} {x : DataW H × List MemPlace} (h : DataW.trod enc P w base spare held n t_sl_int [.slice p len cap] = some x) :
    ∃ l : List Int, View IntE w.heap ⟨p, len, cap⟩ l ∧ l.length + 1 ≤ Rows.uptoBulk x.1 ∧ ∀ n ∈ l, -9223372036854775808 ≤ n ∧ n ≤ 9223372036854775807 := by
  obtain ⟨l, ds, V, hl, hq, hb⟩ := open_sl (E := IntE) (Q := fun y d => -9223372036854775808 ≤ y ∧ y ≤ 9223372036854775807) P_slint P_ci (fun n cs x hx => by
    obtain ⟨s, h1, h2, h3⟩ := DataW.trod_int P_int hx
    exact ⟨s, h1, wf_i64 h3⟩) h
  have := bulk_len ds
  exact ⟨l, V, by omega, fun n hn => by obtain ⟨_, _, h⟩ := mem_bulk hl hq hn; exact h⟩
end

theorem arg_strs {H : Type} {enc : TypeId × Value → H} {W : World} {base : Nat} {v : Value} {d : DataW H} {ps : List MemPlace} (hv : Value.okWide P W .any base t_sl_string v) (h : DataW.Trod enc P W 0 (fun _ => true) true t_sl_string v d ps) :
    ∃ (s : Sl) (l : List ByteArray), v = .slice s.p s.len s.cap ∧ View StrE W.heap s l ∧ (l.map (·.size + 1)).sum + 1 ≤ Rows.uptoBulk d := by
  obtain ⟨p, len, cap, rfl⟩ := okWide_slice P_slstr hv
  obtain ⟨n, hn⟩ := h
  obtain ⟨l, h1, h2⟩ := open_strs hn
  exact ⟨⟨p, len, cap⟩, l, rfl, h1, h2⟩
theorem arg_ints {H : Type} {enc : TypeId × Value → H} {W : World} {base : Nat} {v : Value} {d : DataW H} {ps : List MemPlace} (hv : Value.okWide P W .any base t_sl_int v) (h : DataW.Trod enc P W 0 (fun _ => true) true t_sl_int v d ps) :
    ∃ (s : Sl) (l : List Int), v = .slice s.p s.len s.cap ∧ View IntE W.heap s l ∧ l.length + 1 ≤ Rows.uptoBulk d ∧ ∀ n ∈ l, -9223372036854775808 ≤ n ∧ n ≤ 9223372036854775807 := by
  obtain ⟨p, len, cap, rfl⟩ := okWide_slice P_slint hv
  obtain ⟨n, hn⟩ := h
  obtain ⟨l, h1, h2⟩ := open_ints hn
  exact ⟨⟨p, len, cap⟩, l, rfl, h1, h2⟩
theorem arg_str {H : Type} {enc : TypeId × Value → H} {W : World} {base : Nat} {v : Value} {d : DataW H} {ps : List MemPlace} (hv : Value.okWide P W .any base t_string v) (h : DataW.Trod enc P W 0 (fun _ => true) true t_string v d ps) :
    ∃ s : ByteArray, v = .string s ∧ s.size + 1 ≤ Rows.uptoBulk d := by
  obtain ⟨s, rfl⟩ := okWide_string P_str' hv
  obtain ⟨n, hn⟩ := h
  obtain ⟨s', h1, h2, h3⟩ := DataW.trod_string P_str' hn
  simp [Value.cells] at h1
  subst h1
  refine ⟨s, rfl, ?_⟩
  rw [show d = _ from congrArg Prod.fst h2]
  have : s.data.toList.length = s.size := by rw [Array.length_toList]; rfl
  simp only [Rows.uptoBulk]; omega
end Go.Lf.G

/-
  LIFT, part U5: floats that are whole numbers: what they stand for; order, sums, products, back to integers.
-/
set_option maxRecDepth 100000
namespace Go.Lf
open Go Ieee

abbrev fD : Format := Ieee.double

theorem signed_mul (s : Bool) (m u v : Nat) : signed s m (u + v) = signed s m u * (2 : Int) ^ v := by
  unfold signed
  rw [Nat.shiftLeft_eq, Nat.shiftLeft_eq, Nat.pow_add, ← Nat.mul_assoc]
  split
  · push_cast; rw [Int.neg_mul]
  · push_cast; rfl

/-- a datum, the bits stand for a whole number -/
def DV (d : Datum) (n : Int) : Prop := ∃ s m, ∃ k : Nat, d = .number s m (-(k : Int)) ∧ signed s m 0 = n * (2 : Int) ^ k
def VR (b : Nat) (n : Int) : Prop := DV (fD.read b) n

theorem signed_up (s : Bool) (m u : Nat) : signed s m u = signed s m 0 * (2 : Int) ^ u := by
  have := signed_mul s m 0 u
  rwa [Nat.zero_add] at this
theorem pow_pos (k : Nat) : (0 : Int) < (2 : Int) ^ k := Int.pow_pos (by decide)

theorem compare_mul (a b : Int) (k : Nat) : compare (a * (2 : Int) ^ k) (b * (2 : Int) ^ k) = compare a b := by
  have hk := pow_pos k
  simp only [compare, compareOfLessAndEq]
  have h1 : (a * 2 ^ k < b * 2 ^ k) ↔ a < b := Int.mul_lt_mul_right hk
  have h2 : (a * 2 ^ k = b * 2 ^ k) ↔ a = b := Int.mul_eq_mul_right_iff (by omega)
  by_cases c1 : a < b <;> by_cases c2 : a = b <;> simp [h1, h2, c1, c2]

/-- the order of two whole numbers -/
theorem DV.order {x y : Datum} {n m : Int} (hx : DV x n) (hy : DV y m) : x.order y = some (compare n m) := by
  obtain ⟨s, a, k, rfl, h⟩ := hx
  obtain ⟨t, b, l, rfl, g⟩ := hy
  simp only [Datum.order]
  congr 1
  have e1 : (-(k : Int) - min (-(k : Int)) (-(l : Int))).toNat = max k l - k := by omega
  have e2 : (-(l : Int) - min (-(k : Int)) (-(l : Int))).toNat = max k l - l := by omega
  rw [e1, e2, signed_up s, signed_up t, h, g, Int.mul_assoc, Int.mul_assoc, ← Int.pow_add, ← Int.pow_add, show k + (max k l - k) = max k l by omega, show l + (max k l - l) = max k l by omega, compare_mul]
theorem VR.order {x y : Nat} {n m : Int} (hx : VR x n) (hy : VR y m) : fD.order x y = some (compare n m) := DV.order hx hy

theorem cmp_eq {n m : Int} : (compare n m = .eq) ↔ n = m := by
  simp only [compare, compareOfLessAndEq]
  by_cases c1 : n < m <;> by_cases c2 : n = m <;> simp [c1, c2] <;> omega
theorem cmp_lt' {n m : Int} : (compare n m = .lt) ↔ n < m := by
  simp only [compare, compareOfLessAndEq]
  by_cases c1 : n < m <;> by_cases c2 : n = m <;> simp [c1, c2]
theorem cmp_gt {n m : Int} : (compare n m = .gt) ↔ m < n := by
  simp only [compare, compareOfLessAndEq]
  by_cases c1 : n < m <;> by_cases c2 : n = m <;> simp [c1, c2] <;> omega

/-! ### written exactly -/
theorem read_word (neg : Bool) {rung : Nat} (h : rung < fD.signWeight) :
    fD.read (fD.word neg rung) = if rung < fD.binade then .number neg rung fD.leastPlace else if rung < fD.infRung then .number neg (fD.binade + rung % fD.binade) (fD.leastPlace + (rung / fD.binade - 1 : Nat)) else if rung = fD.infRung then .infinity neg else .nan neg (rung - fD.infRung) := by
  have hs : 0 < fD.signWeight := Nat.two_pow_pos _
  have e1 : (fD.word neg rung / fD.signWeight % 2 == 1) = neg := by
    unfold Format.word
    cases neg
    · simp [Nat.div_eq_of_lt h]
    · simp [Nat.add_div_left _ hs, Nat.div_eq_of_lt h]
  have e2 : fD.word neg rung % fD.signWeight = rung := by
    unfold Format.word
    cases neg
    · simp [Nat.mod_eq_of_lt h]
    · simp [Nat.mod_eq_of_lt h]
  unfold Format.read
  simp only [e1, e2]

theorem signed_zero (s : Bool) (u : Nat) : signed s 0 u = 0 := by cases s <;> simp [signed]
theorem hbin : fD.binade = 4503599627370496 := by decide
theorem hinf : fD.infRung = 9218868437227405312 := by decide
theorem hsgn : fD.signWeight = 9223372036854775808 := by decide
theorem hleast : fD.leastPlace = -1074 := by decide
theorem hfrac : fD.fractionBits = 52 := rfl
theorem vr_zero (neg : Bool) : VR (fD.word neg 0) 0 := by
  refine ⟨neg, 0, 1074, ?_, by rw [signed_zero, Int.zero_mul]⟩
  rw [read_word neg (by rw [hsgn]; decide), if_pos (by rw [hbin]; decide), hleast]; rfl

theorem log2_mul_pow {v : Nat} (hv : 0 < v) (K : Nat) : (v * 2 ^ K).log2 = v.log2 + K := by
  have h0 : v ≠ 0 := by omega
  have hp : 0 < 2 ^ K := Nat.two_pow_pos K
  have hne : v * 2 ^ K ≠ 0 := Nat.mul_ne_zero h0 (by omega)
  have h1 : 2 ^ v.log2 ≤ v := (Nat.le_log2 h0).1 (Nat.le_refl _)
  have h2 : v < 2 ^ (v.log2 + 1) := (Nat.log2_lt h0).1 (Nat.lt_succ_self _)
  have h3 : v.log2 + K ≤ (v * 2 ^ K).log2 := by
    rw [Nat.le_log2 hne, Nat.pow_add]
    exact Nat.mul_le_mul_right _ h1
  have h4 : (v * 2 ^ K).log2 < v.log2 + 1 + K := by
    rw [Nat.log2_lt hne, Nat.pow_add]
    exact Nat.mul_lt_mul_of_pos_right h2 hp
  omega

theorem cut_zero (neg : Bool) (n : Nat) : Toward.even.cut neg n 0 = n := by
  simp [Toward.cut, Nat.mod_one]
theorem cut_exact (way : Toward) (neg : Bool) {M d : Nat} (hM : 0 < M) : way.cut neg (M * 2 ^ d) d = M := by
  unfold Toward.cut
  have hd : min d ((M * 2 ^ d).log2 + 2) = d := by rw [log2_mul_pow hM]; omega
  have hp : 0 < 2 ^ d := Nat.two_pow_pos d
  simp only [hd, Nat.one_shiftLeft, Nat.mul_mod_left, Nat.mul_div_cancel _ hp]
  cases way
  · have h1 : ¬ (2 ^ d = 0) := by omega
    simp [h1]
  all_goals simp

theorem rung_min {L M : Nat} (hl : L ≤ 52) (h2 : M < 9007199254740992) : min ((L + 1022) * 4503599627370496 + M) 9218868437227405312 = (L + 1022) * 4503599627370496 + M := by omega
theorem rung_a {L M : Nat} (h1 : 4503599627370496 ≤ M) : ¬ (L + 1022) * 4503599627370496 + M < 4503599627370496 := by omega
theorem rung_b {L M : Nat} (hl : L ≤ 52) (h2 : M < 9007199254740992) : (L + 1022) * 4503599627370496 + M < 9218868437227405312 := by omega
theorem rung_c {L M : Nat} (h1 : 4503599627370496 ≤ M) (h2 : M < 9007199254740992) : ((L + 1022) * 4503599627370496 + M) % 4503599627370496 = M - 4503599627370496 ∧ ((L + 1022) * 4503599627370496 + M) / 4503599627370496 = L + 1023 := by omega
theorem rung_d {M : Nat} (h1 : 4503599627370496 ≤ M) : 4503599627370496 + (M - 4503599627370496) = M := by omega
theorem rung_e {L : Nat} (hl : L ≤ 52) : (-1074 : Int) + ((L + 1023 - 1 : Nat) : Int) = (L : Int) - 52 := by omega
theorem rung_g {L : Nat} (hl : L ≤ 52) : (L : Int) - 52 = -((52 - L : Nat) : Int) := by omega
theorem rung_f {L M : Nat} (hl : L ≤ 52) (h2 : M < 9007199254740992) : (L + 1022) * 4503599627370496 + M < 9223372036854775808 := by omega
theorem nearest_exact (neg : Bool) {v K : Nat} (hv : 0 < v) (h53 : v < 9007199254740992) : VR (fD.nearest neg (v * 2 ^ K) (-(K : Int))) (if neg then -(v : Int) else v) := by
  have h0 : v ≠ 0 := by omega
  have hlog := log2_mul_pow hv K
  have hl : v.log2 ≤ 52 := by
    have : v.log2 < 53 := (Nat.log2_lt h0).2 (by simpa using h53)
    omega
  have hv1 : 2 ^ v.log2 ≤ v := (Nat.le_log2 h0).1 (Nat.le_refl _)
  have hv2 : v < 2 ^ (v.log2 + 1) := (Nat.log2_lt h0).1 (Nat.lt_succ_self _)
  have hne : ¬ v * 2 ^ K = 0 := Nat.mul_ne_zero h0 (by have := Nat.two_pow_pos K; omega)
  generalize hL : v.log2 = L at *
  have hM1 : 4503599627370496 ≤ v * 2 ^ (52 - L) := by
    have h1 : 2 ^ L * 2 ^ (52 - L) ≤ v * 2 ^ (52 - L) := Nat.mul_le_mul_right _ hv1
    rw [← Nat.pow_add, show L + (52 - L) = 52 by omega] at h1
    exact h1
  have hM2 : v * 2 ^ (52 - L) < 9007199254740992 := by
    have h1 : v * 2 ^ (52 - L) < 2 ^ (L + 1) * 2 ^ (52 - L) := Nat.mul_lt_mul_of_pos_right hv2 (Nat.two_pow_pos _)
    rw [← Nat.pow_add, show L + 1 + (52 - L) = 53 by omega] at h1
    exact h1
  have hn : fD.nearest neg (v * 2 ^ K) (-(K : Int)) = fD.word neg ((L + 1022) * 4503599627370496 + v * 2 ^ (52 - L)) := by
    unfold Format.nearest
    rw [if_neg hne]
    have hmax : max (-(K : Int) + ((v * 2 ^ K).log2 : Nat) - (fD.fractionBits : Nat)) fD.leastPlace = (L : Int) - 52 := by
      rw [hlog, hleast, hfrac]; push_cast; omega
    simp only [hmax]
    have hcut : Toward.even.cut neg ((v * 2 ^ K) <<< (-(K : Int) - ((L : Int) - 52)).toNat) (((L : Int) - 52) - -(K : Int)).toNat = v * 2 ^ (52 - L) := by
      by_cases hc : K + L ≤ 52
      · have e1 : (((L : Int) - 52) - -(K : Int)).toNat = 0 := by omega
        have e2 : (-(K : Int) - ((L : Int) - 52)).toNat = 52 - L - K := by omega
        rw [e1, e2, cut_zero, Nat.shiftLeft_eq, Nat.mul_assoc, ← Nat.pow_add]
        congr 2; omega
      · have e1 : (((L : Int) - 52) - -(K : Int)).toNat = L + K - 52 := by omega
        have e2 : (-(K : Int) - ((L : Int) - 52)).toNat = 0 := by omega
        have e3 : v * 2 ^ K = (v * 2 ^ (52 - L)) * 2 ^ (L + K - 52) := by
          rw [Nat.mul_assoc, ← Nat.pow_add]; congr 2; omega
        rw [e1, e2, Nat.shiftLeft_zero, e3, cut_exact _ _ (by omega)]
    have hpl : (((L : Int) - 52) - fD.leastPlace).toNat = L + 1022 := by rw [hleast]; omega
    rw [hcut, hpl, hbin, hinf, rung_min hl hM2]
  rw [hn]
  have hr : (L + 1022) * 4503599627370496 + v * 2 ^ (52 - L) < fD.signWeight := by rw [hsgn]; exact rung_f hl hM2
  refine ⟨neg, v * 2 ^ (52 - L), 52 - L, ?_, ?_⟩
  · rw [read_word neg hr, hbin, hinf, hleast, if_neg (rung_a hM1), if_pos (rung_b hl hM2), (rung_c hM1 hM2).1, (rung_c hM1 hM2).2, rung_d hM1, rung_e hl, rung_g hl]
  · unfold signed
    rw [Nat.shiftLeft_zero]
    cases neg
    · simp
    · simp [Int.neg_mul]

/-- a written number that is whole -/
theorem vr_write {s : Bool} {a : Nat} {K : Nat} {n : Int} (h : signed s a 0 = n * (2 : Int) ^ K) (hn : n.natAbs < 9007199254740992) : VR (fD.write (.number s a (-(K : Int)))) n := by
  show VR (fD.nearest s a (-(K : Int))) n
  have hp := pow_pos K
  have h2 : (2 : Int) ^ K = ((2 ^ K : Nat) : Int) := by push_cast; rfl
  by_cases h0 : n = 0
  · subst h0
    have ha : a = 0 := by
      unfold signed at h
      rw [Nat.shiftLeft_zero, Int.zero_mul] at h
      split at h <;> omega
    subst ha
    have e : fD.nearest s 0 (-(K : Int)) = fD.word s 0 := by unfold Format.nearest; rw [if_pos rfl]
    rw [e]; exact vr_zero s
  · have ha : a = n.natAbs * 2 ^ K ∧ (if s then -(n.natAbs : Int) else n.natAbs) = n := by
      unfold signed at h
      rw [Nat.shiftLeft_zero] at h
      have hnat : (a : Int).natAbs = (n * 2 ^ K).natAbs := by
        rw [← h]; split <;> simp
      have e : (n * 2 ^ K).natAbs = n.natAbs * 2 ^ K := by
        rw [Int.natAbs_mul, h2, Int.natAbs_natCast]
      refine ⟨by rw [e] at hnat; simpa using hnat, ?_⟩
      split at h
      · rename_i hs
        rw [if_pos hs]
        have : n * (2 : Int) ^ K ≤ 0 := by omega
        have : n ≤ 0 := by
          rcases Int.lt_or_le 0 n with h3 | h3
          · have := Int.mul_pos h3 hp; omega
          · exact h3
        omega
      · rename_i hs
        rw [if_neg hs]
        have : 0 ≤ n * (2 : Int) ^ K := by omega
        have : 0 ≤ n := by
          rcases Int.lt_or_le n 0 with h3 | h3
          · have := Int.mul_neg_of_neg_of_pos h3 hp; omega
          · exact h3
        omega
    rw [ha.1]
    have := nearest_exact s (v := n.natAbs) (K := K) (by omega) hn
    rw [ha.2] at this
    exact this

theorem vr_int {n : Int} (hn : n.natAbs < 9007199254740992) : VR (floatOfInt .f64 n) n := by
  show VR (fD.write (.number (n < 0) n.natAbs 0)) n
  have := vr_write (s := decide (n < 0)) (a := n.natAbs) (K := 0) (n := n) (by
    unfold signed
    rw [Nat.shiftLeft_zero]
    split
    · rename_i h; simp at h; simp; omega
    · rename_i h; simp at h; simp; omega) hn
  simpa using this

theorem signed_back (t : Int) : signed (decide (t < 0)) t.natAbs 0 = t := by
  unfold signed
  rw [Nat.shiftLeft_zero]
  split
  · rename_i h; simp at h; omega
  · rename_i h; simp at h; omega

theorem DV.sum {x y : Datum} {n m : Int} (hx : DV x n) (hy : DV y m) (hn : (n + m).natAbs < 9007199254740992) : ∃ d, x.sum y = some d ∧ VR (fD.write d) (n + m) := by
  obtain ⟨s, a, k, rfl, h⟩ := hx
  obtain ⟨t, b, l, rfl, g⟩ := hy
  refine ⟨_, rfl, ?_⟩
  have e0 : min (-(k : Int)) (-(l : Int)) = -((max k l : Nat) : Int) := by omega
  have e1 : (-(k : Int) - min (-(k : Int)) (-(l : Int))).toNat = max k l - k := by omega
  have e2 : (-(l : Int) - min (-(k : Int)) (-(l : Int))).toNat = max k l - l := by omega
  have et : signed s a (-(k : Int) - min (-(k : Int)) (-(l : Int))).toNat + signed t b (-(l : Int) - min (-(k : Int)) (-(l : Int))).toNat = (n + m) * (2 : Int) ^ (max k l) := by
    rw [e1, e2, signed_up s, signed_up t, h, g, Int.mul_assoc, Int.mul_assoc, ← Int.pow_add, ← Int.pow_add, show k + (max k l - k) = max k l by omega, show l + (max k l - l) = max k l by omega, Int.add_mul]
  simp only [et]
  rw [e0]
  generalize hT : (n + m) * (2 : Int) ^ (max k l) = T at *
  refine vr_write ?_ hn
  rw [hT]
  split
  · rename_i h0
    rw [h0]; exact (signed_zero _ _).trans (by rw [← h0])
  · exact (signed_back T)

theorem DV.opposite {x : Datum} {n : Int} (hx : DV x n) : DV x.opposite (-n) := by
  obtain ⟨s, a, k, rfl, h⟩ := hx
  refine ⟨!s, a, k, rfl, ?_⟩
  rw [Int.neg_mul, ← h]
  unfold signed
  cases s <;> simp

theorem VR.add {x y : Nat} {n m : Int} (hx : VR x n) (hy : VR y m) (hn : (n + m).natAbs < 9007199254740992) : ∃ r, fD.add x y = some r ∧ VR r (n + m) := by
  obtain ⟨d, h1, h2⟩ := DV.sum hx hy hn
  unfold Format.add
  rw [h1]; exact ⟨_, rfl, h2⟩
theorem VR.sub {x y : Nat} {n m : Int} (hx : VR x n) (hy : VR y m) (hn : (n - m).natAbs < 9007199254740992) : ∃ r, fD.sub x y = some r ∧ VR r (n - m) := by
  obtain ⟨d, h1, h2⟩ := DV.sum hx (DV.opposite hy) (by rw [← Int.sub_eq_add_neg]; exact hn)
  unfold Format.sub
  rw [h1]; exact ⟨_, rfl, by rw [Int.sub_eq_add_neg]; exact h2⟩
theorem VR.mul {x y : Nat} {n m : Int} (hx : VR x n) (hy : VR y m) (hn : (n * m).natAbs < 9007199254740992) : ∃ r, fD.mul x y = some r ∧ VR r (n * m) := by
  obtain ⟨s, a, k, hr, h⟩ := hx
  obtain ⟨t, b, l, hq, g⟩ := hy
  unfold Format.mul
  rw [hr, hq]
  simp only [Datum.product, Option.map_some]
  refine ⟨_, rfl, ?_⟩
  have e : -(k : Int) + -(l : Int) = -((k + l : Nat) : Int) := by omega
  rw [e]
  refine vr_write ?_ hn
  have : signed (s ^^ t) (a * b) 0 = signed s a 0 * signed t b 0 := by
    unfold signed
    simp only [Nat.shiftLeft_zero]
    cases s <;> cases t <;> simp [Int.neg_mul, Int.mul_neg]
  rw [this, h, g, Int.pow_add]
  simp only [Int.mul_assoc, Int.mul_comm, Int.mul_left_comm]

theorem read_neg (b : Nat) : fD.read (Op.negFloat .f64 b) = (fD.read b).opposite := by
  have e : Op.negFloat .f64 b = b ^^^ 2 ^ 63 := rfl
  have hs : fD.signWeight = 2 ^ 63 := by decide
  have h1 : (b ^^^ 2 ^ 63) % 2 ^ 63 = b % 2 ^ 63 := by rw [Nat.xor_mod_two_pow]; simp
  have h2 : ((b ^^^ 2 ^ 63) / 2 ^ 63 % 2 == 1) = !(b / 2 ^ 63 % 2 == 1) := by
    rw [Nat.xor_div_two_pow, Nat.div_self (Nat.two_pow_pos _)]
    have h3 : ((b / 2 ^ 63) ^^^ 1) % 2 = 1 ↔ ¬ (b / 2 ^ 63) % 2 = 1 := by
      rw [Nat.xor_mod_two_eq_one]; simp
    rw [Bool.eq_iff_iff]
    simp only [beq_iff_eq, Bool.not_eq_true', beq_eq_false_iff_ne]
    exact h3
  rw [e]
  unfold Format.read
  rw [hs, h1, h2]
  simp only
  split
  · rfl
  · split
    · rfl
    · split <;> rfl
theorem VR.neg {x : Nat} {n : Int} (hx : VR x n) : VR (Op.negFloat .f64 x) (-n) := by
  unfold VR; rw [read_neg]; exact DV.opposite hx

theorem DV.toInt {x : Datum} {n : Int} (hx : DV x n) (way : Toward) : x.toInt way = some n := by
  obtain ⟨s, a, k, rfl, h⟩ := hx
  have hk := pow_pos k
  unfold Datum.toInt Datum.integral
  have e1 : (-(k : Int)).toNat = 0 := by omega
  have e2 : (-(-(k : Int))).toNat = k := by omega
  simp only [e1, e2, Nat.shiftLeft_zero]
  by_cases h0 : n = 0
  · subst h0
    have ha : a = 0 := by
      unfold signed at h
      rw [Nat.shiftLeft_zero, Int.zero_mul] at h
      split at h <;> omega
    subst ha
    have : way.cut s 0 k = 0 := by
      unfold Toward.cut; cases way <;> simp
      all_goals (rcases Nat.lt_or_ge k 2 with hk2 | hk2)
      all_goals simp [Nat.one_shiftLeft]
    rw [this, signed_zero]
  · have ha : a = n.natAbs * 2 ^ k := by
      have h2 : (2 : Int) ^ k = ((2 ^ k : Nat) : Int) := by push_cast; rfl
      unfold signed at h
      rw [Nat.shiftLeft_zero] at h
      have hnat : (a : Int).natAbs = (n * 2 ^ k).natAbs := by rw [← h]; split <;> simp
      have e : (n * 2 ^ k).natAbs = n.natAbs * 2 ^ k := by rw [Int.natAbs_mul, h2, Int.natAbs_natCast]
      rw [e] at hnat; simpa using hnat
    rw [ha, cut_exact _ _ (by omega)]
    congr 1
    have : signed s a 0 = signed s n.natAbs 0 * (2 : Int) ^ k := by
      rw [ha]; unfold signed; simp only [Nat.shiftLeft_zero]
      split
      · push_cast; rw [Int.neg_mul]
      · push_cast; rfl
    rw [this] at h
    exact Int.eq_of_mul_eq_mul_right (by omega) h
theorem VR.toInt {x : Nat} {n : Int} (hx : VR x n) (hn : n.natAbs < 9007199254740992) : floatToIntVal .f64 x .i64 = some n := by
  have := DV.toInt hx .zero
  unfold floatToIntVal
  have e : (FloatKind.f64.decode x).toInt .zero = some n := this
  rw [e]
  have h1 : IntKind.i64.min = -9223372036854775808 := by simp [IntKind.min, IntKind.bits, IntKind.signed]
  have h2 : IntKind.i64.max = 9223372036854775807 := by simp [IntKind.max, IntKind.bits, IntKind.signed]
  simp only [h1, h2]
  rw [if_pos (by omega)]

/-! ### whatever bits -/
theorem read_form {b : Nat} {s : Bool} {m : Nat} {i : Int} (h : fD.read b = .number s m i) : i ≤ 0 ∨ 4503599627370496 ≤ m := by
  unfold Format.read at h
  simp only [hbin, hinf, hleast] at h
  split at h
  · injection h with _ _ h3; exact .inl (by omega)
  · split at h
    · injection h with _ h2 _; exact .inr (by omega)
    · split at h <;> cases h

theorem signed_abs (s : Bool) (m u : Nat) : (signed s m u).natAbs = m * 2 ^ u := by
  unfold signed
  rw [Nat.shiftLeft_eq]
  split
  · rw [Int.natAbs_neg, Int.natAbs_natCast]
  · rw [Int.natAbs_natCast]

/-- what is equal to a whole number stands for it -/
theorem VR.of_eq {x y : Nat} {m : Int} (hy : VR y m) (hm : m.natAbs < 4503599627370496) (h : fD.order x y = some .eq) : VR x m := by
  obtain ⟨t, b, l, hq, g⟩ := hy
  unfold Format.order at h
  rw [hq] at h
  unfold VR
  cases hr : fD.read x with
  | nan s f => rw [hr] at h; simp [Datum.order] at h
  | infinity s => rw [hr] at h; cases s <;> simp [Datum.order] at h
  | number s a i =>
    rw [hr] at h
    simp only [Datum.order, Option.some.injEq] at h
    rw [cmp_eq] at h
    by_cases hi : i ≤ 0
    · refine ⟨s, a, (-i).toNat, by rw [show -(((-i).toNat : Nat) : Int) = i by omega], ?_⟩
      generalize hk : (-i).toNat = k
      have e1 : (i - min i (-(l : Int))).toNat = max k l - k := by omega
      have e2 : (-(l : Int) - min i (-(l : Int))).toNat = max k l - l := by omega
      rw [e1, e2, signed_up s, signed_up t, g, Int.mul_assoc, ← Int.pow_add, show l + (max k l - l) = max k l by omega] at h
      refine Int.eq_of_mul_eq_mul_right (a := (2 : Int) ^ (max k l - k)) (by have := pow_pos (max k l - k); omega) ?_
      rw [h, Int.mul_assoc, ← Int.pow_add, show k + (max k l - k) = max k l by omega]
    · exfalso
      have ha := (read_form hr).resolve_left hi
      have e1 : (i - min i (-(l : Int))).toNat = i.toNat + l := by omega
      have e2 : (-(l : Int) - min i (-(l : Int))).toNat = 0 := by omega
      rw [e1, e2, g] at h
      have h1 := congrArg Int.natAbs h
      have h2 : (2 : Int) ^ l = ((2 ^ l : Nat) : Int) := by push_cast; rfl
      rw [signed_abs, Int.natAbs_mul, h2, Int.natAbs_natCast, Nat.pow_add, ← Nat.mul_assoc] at h1
      have h3 : a * 2 ^ i.toNat = m.natAbs := Nat.eq_of_mul_eq_mul_right (Nat.two_pow_pos l) h1
      have h4 : 1 ≤ 2 ^ i.toNat := Nat.two_pow_pos _
      have h5 : a * 1 ≤ a * 2 ^ i.toNat := Nat.mul_le_mul_left _ h4
      omega
theorem VR.eq_iff {x y : Nat} {m : Int} (hy : VR y m) (hm : m.natAbs < 4503599627370496) : fD.order x y = some .eq ↔ VR x m :=
  ⟨fun h => hy.of_eq hm h, fun h => by rw [VR.order h hy, cmp_eq.2 rfl]⟩
theorem VR.inj {x : Nat} {n m : Int} (h : VR x n) (g : VR x m) : n = m := by
  have h1 := VR.order h g
  have h2 := VR.order g g
  rw [h1] at h2
  have e : compare m m = .eq := cmp_eq.2 rfl
  rw [e] at h2
  exact cmp_eq.1 (Option.some.inj h2)

theorem cmp_ge {a b : Int} (h : compare a b = .gt ∨ compare a b = .eq) : b ≤ a := by
  rcases h with h | h
  · rw [cmp_gt] at h; omega
  · rw [cmp_eq] at h; omega
theorem cmp_le {a b : Int} (h : compare a b = .lt ∨ compare a b = .eq) : a ≤ b := by
  rcases h with h | h
  · rw [cmp_lt'] at h; omega
  · rw [cmp_eq] at h; omega

theorem scale_le {a : Nat} {i c : Int} {v : Nat} (h : a * 2 ^ (i - c).toNat ≤ 1024 * 2 ^ v) (h1 : c ≤ i) (h3 : (v : Int) = -c) {u : Nat} (hu : i + u ≥ 0) : a * 2 ^ (i + u).toNat ≤ 1024 * 2 ^ u := by
  rcases Nat.le_total u v with hv | hv
  · -- v is the finer scale
    have e : (i - c).toNat = (i + u).toNat + (v - u) := by omega
    have e2 : 2 ^ v = 2 ^ u * 2 ^ (v - u) := by rw [← Nat.pow_add]; congr 1; omega
    rw [e, Nat.pow_add, e2, ← Nat.mul_assoc, ← Nat.mul_assoc] at h
    exact Nat.le_of_mul_le_mul_right h (Nat.two_pow_pos _)
  · have e : (i + u).toNat = (i - c).toNat + (u - v) := by omega
    have e2 : 2 ^ u = 2 ^ v * 2 ^ (u - v) := by rw [← Nat.pow_add]; congr 1; omega
    rw [e, Nat.pow_add, e2, ← Nat.mul_assoc, ← Nat.mul_assoc]
    exact Nat.mul_le_mul_right _ h
/-- a number between two whole ones: it has a whole part -/
theorem whole_part {x lo hi : Nat} (hlo : VR lo (-1024)) (hhi : VR hi 1024) (h1 : fD.order x lo = some .gt ∨ fD.order x lo = some .eq) (h2 : fD.order x hi = some .lt ∨ fD.order x hi = some .eq) :
    ∃ n, floatToIntVal .f64 x .i64 = some n ∧ n.natAbs ≤ 1024 := by
  obtain ⟨t, b, l, hq, g⟩ := hlo
  obtain ⟨t', b', l', hq', g'⟩ := hhi
  unfold Format.order at h1 h2
  rw [hq] at h1
  rw [hq'] at h2
  cases hr : fD.read x with
  | nan s f => rw [hr] at h1; simp [Datum.order] at h1
  | infinity s => rw [hr] at h1 h2; cases s <;> simp [Datum.order] at h1 h2
  | number s a i =>
    rw [hr] at h1 h2
    simp only [Datum.order, Option.some.injEq] at h1 h2
    have k1 := cmp_ge h1
    have k2 := cmp_le h2
    -- the magnitude, at one scale
    have hmag : ∀ u : Nat, i + u ≥ 0 → a * 2 ^ (i + u).toNat ≤ 1024 * 2 ^ u := by
      intro u hu
      have s1 := signed_up t b (-(l : Int) - min i (-(l : Int))).toNat
      have s2 := signed_up t' b' (-(l' : Int) - min i (-(l' : Int))).toNat
      rw [g] at s1
      rw [g'] at s2
      have pl : (2 : Int) ^ l = ((2 ^ l : Nat) : Int) := by push_cast; rfl
      by_cases hs : s = true
      · subst hs
        rw [s1] at k1
        have e : signed true a (i - min i (-(l : Int))).toNat = -((a * 2 ^ (i - min i (-(l : Int))).toNat : Nat) : Int) := by unfold signed; rw [if_pos rfl, Nat.shiftLeft_eq]
        rw [e, Int.mul_assoc, ← Int.pow_add] at k1
        have k3 : a * 2 ^ (i - min i (-(l : Int))).toNat ≤ 1024 * 2 ^ (l + (-(l : Int) - min i (-(l : Int))).toNat) := by
          have : (2 : Int) ^ (l + (-(l : Int) - min i (-(l : Int))).toNat) = ((2 ^ (l + (-(l : Int) - min i (-(l : Int))).toNat) : Nat) : Int) := by push_cast; rfl
          rw [this] at k1; omega
        exact scale_le (c := (min i (-(l : Int)))) k3 (by omega) (by omega) hu
      · have hs : s = false := by simpa using hs
        subst hs
        rw [s2] at k2
        have e : signed false a (i - min i (-(l' : Int))).toNat = ((a * 2 ^ (i - min i (-(l' : Int))).toNat : Nat) : Int) := by unfold signed; rw [if_neg (by simp), Nat.shiftLeft_eq]
        rw [e, Int.mul_assoc, ← Int.pow_add] at k2
        have k3 : a * 2 ^ (i - min i (-(l' : Int))).toNat ≤ 1024 * 2 ^ (l' + (-(l' : Int) - min i (-(l' : Int))).toNat) := by
          have : (2 : Int) ^ (l' + (-(l' : Int) - min i (-(l' : Int))).toNat) = ((2 ^ (l' + (-(l' : Int) - min i (-(l' : Int))).toNat) : Nat) : Int) := by push_cast; rfl
          rw [this] at k2; omega
        exact scale_le (c := (min i (-(l' : Int)))) k3 (by omega) (by omega) hu
    have hti : (fD.read x).toInt .zero = some (signed s (Toward.zero.cut s (a <<< i.toNat) (-i).toNat) 0) := by rw [hr]; rfl
    have hc : Toward.zero.cut s (a <<< i.toNat) (-i).toNat ≤ 1024 := by
      unfold Toward.cut
      simp only [Bool.toNat_false, Nat.add_zero]
      by_cases hi : 0 ≤ i
      · have e1 : (-i).toNat = 0 := by omega
        have h3 := hmag 0 (by omega)
        rw [e1, Nat.zero_min, Nat.shiftLeft_zero, Nat.div_one, Nat.shiftLeft_eq]
        simpa using h3
      · have e1 : i.toNat = 0 := by omega
        have h3 := hmag (-i).toNat (by omega)
        rw [show (i + ((-i).toNat : Nat)).toNat = 0 by omega, Nat.pow_zero, Nat.mul_one] at h3
        rw [e1, Nat.shiftLeft_zero, Nat.one_shiftLeft]
        by_cases hd : (-i).toNat ≤ a.log2 + 2
        · rw [Nat.min_eq_left hd]
          exact Nat.div_le_of_le_mul (by rw [Nat.mul_comm]; exact h3)
        · rw [Nat.min_eq_right (by omega)]
          have : a < 2 ^ (a.log2 + 2) := by
            by_cases h0 : a = 0
            · subst h0; exact Nat.two_pow_pos _
            · have h5 : a < 2 ^ (a.log2 + 1) := (Nat.log2_lt h0).1 (Nat.lt_succ_self _)
              rw [Nat.pow_succ] at h5 ⊢
              rw [Nat.pow_succ]
              omega
          rw [Nat.div_eq_of_lt this]; omega
    generalize Toward.zero.cut s (a <<< i.toNat) (-i).toNat = c at hti hc
    have hn : (signed s c 0).natAbs = c := by rw [signed_abs]; simp
    refine ⟨signed s c 0, ?_, by omega⟩
    unfold floatToIntVal
    have e : (FloatKind.f64.decode x).toInt .zero = some (signed s c 0) := hti
    rw [e]
    have m1 : IntKind.i64.min = -9223372036854775808 := by simp [IntKind.min, IntKind.bits, IntKind.signed]
    have m2 : IntKind.i64.max = 9223372036854775807 := by simp [IntKind.max, IntKind.bits, IntKind.signed]
    simp only [m1, m2]
    rw [if_pos (by omega)]
end Go.Lf

/-
  LIFT, part U6: what is reckoned of floats and complex numbers, as rules.
-/
set_option maxRecDepth 100000
set_option linter.unusedVariables false
namespace Go.Lf
open Go Ieee

theorem RunK.calc {A : Amb} {P : Program} {s : Sem Value} {h : Heap} {K : Value → Heap → Prop} {v : Value} (hc : s.calc P = some v) (H : K v h) : RunK A P s h K := fun n => ⟨v, h, n, calc_sound hc _, H⟩
theorem RunK.run {A : Amb} {P : Program} {s : Sem Value} {h : Heap} {K : Value → Heap → Prop} {v : Value} (hc : ∀ w, s.run P w = .ok v w) (H : K v h) : RunK A P s h K := fun n => ⟨v, h, n, hc _, H⟩

section
variable {A : Amb} {P : Program} {t : TypeId} {o1 o2 : Operand} {x y : Nat} {h : Heap} {K : Value → Heap → Prop}
abbrev fop (op : BinOp) (t : TypeId) (o1 o2 : Operand) (x y : Nat) : Sem Value := do eqGuard op t o1 o2 (.float .f64 x) (.float .f64 y); binOp op t (.float .f64 x) (.float .f64 y)
theorem fgeq_ok (H : K (.bool (fD.order x y == some .gt || fD.order x y == some .eq)) h) : RunK A P (fop .geq t o1 o2 x y) h K := RunK.calc rfl H
theorem fleq_ok (H : K (.bool (fD.order x y == some .lt || fD.order x y == some .eq)) h) : RunK A P (fop .leq t o1 o2 x y) h K := RunK.calc rfl H
theorem fgtr_ok (H : K (.bool (fD.order x y == some .gt)) h) : RunK A P (fop .gtr t o1 o2 x y) h K := RunK.calc rfl H
theorem feql_ok (H : K (.bool (fD.order x y == some .eq)) h) : RunK A P (fop .eql t o1 o2 x y) h K := RunK.calc rfl H
theorem fneq_ok (H : K (.bool (fD.order x y != some .eq)) h) : RunK A P (fop .neq t o1 o2 x y) h K := RunK.calc rfl H
theorem fadd_ok {r : Nat} (hr : fD.add x y = some r) (H : K (.float .f64 r) h) : RunK A P (fop .add t o1 o2 x y) h K := by
  refine RunK.run (fun w => ?_) H
  have := run_float_arith (P := P) w .add t .f64 x y r hr
  simp only [fop, Sem.run_bind]
  have e : (eqGuard .add t o1 o2 (.float .f64 x) (.float .f64 y)).run P w = .ok () w := rfl
  rw [e, Result.andThen_ok, this]

/-- i times a place's number -/
theorem arith_run {op : BinOp} {r : Nat} (hr : floatBits op .f64 x y = some r) (w : World) : (Op.Complex.arith op .f64 x y).run P w = .ok r w := by
  unfold floatBits at hr
  unfold Op.Complex.arith
  cases op <;> simp only at hr <;> first | (cases hr; done) | skip
  all_goals
    have h1 : ∀ k, FloatKind.f64.format = k → True := fun _ _ => trivial
    simp [Op.floatArith, hr]

abbrev cop (op : BinOp) (t : TypeId) (o1 o2 : Operand) (a b c d : Nat) : Sem Value := do eqGuard op t o1 o2 (.complex .f64 a b) (.complex .f64 c d); binOp op t (.complex .f64 a b) (.complex .f64 c d)
theorem cmul_ok {a b c d r1 r2 e r3 r4 f : Nat} (h1 : fD.mul a c = some r1) (h2 : fD.mul b d = some r2) (h3 : fD.sub r1 r2 = some e) (h4 : fD.mul a d = some r3) (h5 : fD.mul b c = some r4) (h6 : fD.add r3 r4 = some f)
    (H : K (.complex .f64 e f) h) : RunK A P (cop .mul t o1 o2 a b c d) h K := by
  refine RunK.run (fun w => ?_) H
  have k1 := arith_run (P := P) (op := .mul) (x := a) (y := c) h1 w
  have k2 := arith_run (P := P) (op := .mul) (x := b) (y := d) h2 w
  have k3 := arith_run (P := P) (op := .sub) (x := r1) (y := r2) h3 w
  have k4 := arith_run (P := P) (op := .mul) (x := a) (y := d) h4 w
  have k5 := arith_run (P := P) (op := .mul) (x := b) (y := c) h5 w
  have k6 := arith_run (P := P) (op := .add) (x := r3) (y := r4) h6 w
  simp only [cop, Sem.run_bind]
  have e0 : (eqGuard .mul t o1 o2 (.complex .f64 a b) (.complex .f64 c d)).run P w = .ok () w := rfl
  rw [e0, Result.andThen_ok]
  have e1 : binOp .mul t (.complex .f64 a b) (.complex .f64 c d) = Op.complexOp .mul .f64 a b c d := by simp [binOp]
  rw [e1]
  simp [Op.complexOp, Op.Complex.conv, Op.Complex.product, Op.Complex.mul, Op.Complex.sub, Op.Complex.add, Sem.run_bind, k1, k2, k3, k4, k5, k6]
theorem ceql_ok {a b c d : Nat} (H : K (.bool (fD.order a c == some .eq && fD.order b d == some .eq)) h) : RunK A P (cop .eql t o1 o2 a b c d) h K := RunK.calc rfl H
theorem cneq_ok {a b c d : Nat} (H : K (.bool (!(fD.order a c == some .eq && fD.order b d == some .eq))) h) : RunK A P (cop .neq t o1 o2 a b c d) h K := RunK.calc rfl H
theorem real_ok {at_ : Array TypeId} {ty : TypeId} {a b : Nat} (H : K (.float .f64 a) h) : RunK A P (Builtin.real_ at_ ty #[.complex .f64 a b]) h K := RunK.calc rfl H
theorem imag_ok {at_ : Array TypeId} {ty : TypeId} {a b : Nat} (H : K (.float .f64 b) h) : RunK A P (Builtin.imag_ at_ ty #[.complex .f64 a b]) h K := RunK.calc rfl H
theorem complex_ok {at_ : Array TypeId} {ty : TypeId} {a b : Nat} (H : K (.complex .f64 a b) h) : RunK A P (Builtin.complex_ at_ ty #[.float .f64 a, .float .f64 b]) h K := RunK.calc rfl H
theorem f2i_ok {src dst : TypeId} {b : Nat} {n : Int} (hs : P.underlying src = some (.float .f64)) (hd : P.underlying dst = some (.int .i64)) (hv : floatToIntVal .f64 b .i64 = some n) (H : K (.int .i64 n) h) : RunK A P (convert src dst (.float .f64 b)) h K :=
  RunK.run (fun w => run_convert_float_int w src dst .f64 .i64 b n (by rw [hs]; rfl) hd hv) H
theorem i2f_ok {src dst : TypeId} {n : Int} (hs : P.underlying src = some (.int .i64)) (hd : P.underlying dst = some (.float .f64)) (H : K (.float .f64 (floatOfInt .f64 n)) h) : RunK A P (convert src dst (.int .i64 n)) h K := by
  refine RunK.run (fun w => ?_) H
  have e : FloatKind.f64.nearest n = floatOfInt .f64 n := rfl
  simp [convert, run_und hs, run_und hd, Conv.intToFloat, e]
theorem max_ok {at_ : Array TypeId} {ty : TypeId} {n m : Int} (hx : VR x n) (hy : VR y m) (H : ∀ r, VR r (max n m) → K (.float .f64 r) h) : RunK A P (Builtin.max_ at_ ty #[.float .f64 x, .float .f64 y]) h K := by
  have ho := VR.order hx hy
  have ho' : FloatKind.f64.format.order x y = some (compare n m) := ho
  by_cases h1 : n < m
  · have e : compare n m = .lt := cmp_lt'.2 h1
    refine RunK.run (v := .float .f64 y) (fun w => ?_) (H y (by rw [show max n m = m by omega]; exact hy))
    simp [Builtin.max_, Builtin.max2, ho', e]
  · by_cases h2 : m < n
    · have e : compare n m = .gt := cmp_gt.2 h2
      refine RunK.run (v := .float .f64 x) (fun w => ?_) (H x (by rw [show max n m = n by omega]; exact hx))
      simp [Builtin.max_, Builtin.max2, ho', e]
    · have hnm : n = m := by omega
      subst hnm
      have e : compare n n = .eq := cmp_eq.2 rfl
      refine RunK.run (v := .float .f64 (if (FloatKind.f64.decode x).neg then y else x)) (fun w => ?_) (H _ (by rw [show max n n = n by omega]; split <;> assumption))
      simp [Builtin.max_, Builtin.max2, ho', e]
end
end Go.Lf

