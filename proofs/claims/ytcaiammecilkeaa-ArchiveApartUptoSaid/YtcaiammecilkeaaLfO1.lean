/-
  Rows: arguments opened (any lists), what is asked behind the call.
-/
import Derived.Test.YtcaiammecilkeaaLfG1
import Derived.Test.YtcaiammecilkeaaLfU1
import Derived.Test.YtcaiammecilkeaaRows
import Derived.WalkKit
import Derived.ProofKit
import Derived.OpenShut
import Derived.JoinedCond
import Derived.Deep.Slices
import Derived.Carry
set_option maxRecDepth 100000
set_option linter.unusedVariables false
set_option linter.unusedSimpArgs false
namespace Go.Lf.G
open Go Go.ChangeShapes Go.WideShapes Go.ChangeAt Go.RowKit Go.Proofs.Ytcaiammecilkeaa

theorem bulk_one {H : Type} (d : DataW H) : 1 ≤ Rows.uptoBulk d := by
  cases d with
  | lit l => cases l <;> simp [Rows.uptoBulk]
  | nil => simp [Rows.uptoBulk]
  | ptr d => simp [Rows.uptoBulk]
  | slice elems spare => simp [Rows.uptoBulk]
  | agg parts => simp [Rows.uptoBulk]
  | iface t d => simp [Rows.uptoBulk]
  | map entries => simp [Rows.uptoBulk]
  | held h => simp [Rows.uptoBulk]

theorem bulk_len {H : Type} (l : List (DataW H)) : l.length ≤ Rows.uptoBulkAll l := by
  induction l with
  | nil => simp [Rows.uptoBulkAll]
  | cons x r ih => have := bulk_one x; simp only [Rows.uptoBulkAll, List.length_cons]; omega

theorem bulk_append {H : Type} (l r : List (DataW H)) : Rows.uptoBulkAll (l ++ r) = Rows.uptoBulkAll l + Rows.uptoBulkAll r := by
  induction l with
  | nil => simp [Rows.uptoBulkAll]
  | cons x l ih => simp only [List.cons_append, Rows.uptoBulkAll, ih]; omega

theorem stays_all {H : Type} {enc : TypeId × Value → H} {P : Program} (hl : laidOutB P = true) {W W' : World} {sp : Nat → Bool} : ∀ {ts : List TypeId} {vs : List Value} {ds : List (DataW H)} {ps : List MemPlace},
    (ts.all fun t => P.readableRec t && decide (t < P.types.size)) = true → DataW.TrodAll enc P W 0 (fun _ => true) true ts vs ds ps → (∀ p ∈ ps, W.sameAt W' p) → (∀ p ∈ ps, sp p.block = true) → DataW.TrodAll enc P W' 0 sp true ts vs ds ps
  | [], [], [], _, _, h, _, _ => h
  | t :: ts, v :: vs, d :: ds, _, hr, ⟨p, q, h1, h2, e⟩, hs, hsp => by
    simp only [List.all_cons, Bool.and_eq_true, decide_eq_true_eq] at hr
    subst e
    exact ⟨p, q, WideElems.Trod_stays hl hr.1.1 hr.1.2 h1 (fun x hx => hs x (List.mem_append_left _ hx)) (fun x hx => hsp x (List.mem_append_left _ hx)),
      stays_all hl (by simpa using hr.2) h2 (fun x hx => hs x (List.mem_append_right _ hx)) (fun x hx => hsp x (List.mem_append_right _ hx)), rfl⟩

/-- the world of a call, in parts -/
def ambOf (W : World) : Amb := ⟨W.tape, W.os, W.output⟩
theorem ambOf_at (W : World) : (ambOf W).at W.heap W.drawn = W := rfl

theorem row_post {H : Type} {enc : TypeId × Value → H} {P : Program} {f : Func} {s : ChangeSpec} {W : World} {args : Array Value} {ds gs : List (DataW H)} {before : List MemPlace} {tb : TypeId} {h' : Heap} {n' : Nat}
    (hW : DataW.Whole enc P f.params.toList s.vars false W args.toList ds gs before) (hvars : s.vars = []) (hres : (s.fn H (ds ++ gs)).results = [.lit (.bool true)]) (hargs : (s.fn H (ds ++ gs)).args = ds) (hvs : (s.fn H (ds ++ gs)).vars = [])
    (hl : laidOutB P = true) (hp : (f.params.toList.all fun t => P.readableRec t && decide (t < P.types.size)) = true) (hr : f.resultTypes = #[tb]) (hb : P.underlying tb = some .bool) (x : Ext W.heap h') :
    s.post enc P f false true false false W args (.bool true) ((ambOf W).at h' n') := by
  have hlt := fun p (hp : p ∈ before) => hW.lt p hp
  have hsame : ∀ p ∈ before, W.sameAt ((ambOf W).at h' n') p := fun p hp => by
    have hb2 : h'[p.block]? = W.heap[p.block]? := x.get _ (hlt p hp) (fun h => h)
    cases p with
    | cell b off =>
      show hget h' ⟨b, off, none⟩ = hget W.heap ⟨b, off, none⟩
      exact hget_blk hb2
    | map b => exact hb2
  obtain ⟨p, q, hA, hV, rfl, hz, hn⟩ := id hW
  rw [hvars] at hV
  have hgs : gs = [] ∧ q = [] := by
    cases gs with
    | nil => exact ⟨rfl, hV⟩
    | cons _ _ => exact hV.elim
  obtain ⟨rfl, rfl⟩ := hgs
  refine ⟨ds, [], p ++ [], [], p, [], hW, ?_, ?_, ?_, ?_, fun h => by cases h⟩
  · rw [hres, hr]
    exact ⟨[], [], ⟨1, by simp [DataW.trod, Value.cells, hb]⟩, rfl, rfl⟩
  · rw [hargs]
    exact stays_all hl hp hA (fun y hy => hsame y (List.mem_append_left _ hy)) (fun y hy => by simpa using hlt y (List.mem_append_left _ hy))
  · rw [hvars, hvs]; rfl
  · refine ⟨rfl, rfl, fun i hi => ?_⟩
    have e : ((ambOf W).at h' n').heap[i]? = W.heap[i]? := x.get i hi (fun h => h)
    rw [e]
    cases h1 : W.heap[i]? with
    | none => trivial
    | some o =>
      cases o with
      | cells c t fr => exact ⟨rfl, rfl, rfl, fun _ _ => rfl⟩
      | map es clock => exact .inr ⟨rfl, rfl⟩
      | _ => rfl


theorem laid : laidOutB P = true := by kernel_rfl

section
variable {H : Type} {enc : TypeId × Value → H} {w : World} {base : Nat} {spare : Nat → Bool} {held : Bool}

/-- a list's elements opened, each beside its datum -/
theorem open_sl {α : Type} {E : Enc α} {Q : α → DataW H → Prop} {tS t : TypeId} (hT : P.underlying tS = some (.slice t)) (hc : P.cellsOf t = E.w)
    (hel : ∀ n cs x, DataW.trod enc P w base spare held n t cs = some x → ∃ y : α, cs = E.enc y ∧ Q y x.1) {n : Nat} {p : Option Addr} {len cap : Nat} {x : DataW H × List MemPlace} (h : DataW.trod enc P w base spare held n tS [.slice p len cap] = some x) :
    ∃ (l : List α) (ds : List (DataW H)), View E w.heap ⟨p, len, cap⟩ l ∧ l.length = ds.length ∧ (∀ (i : Nat) y d, l[i]? = some y → ds[i]? = some d → Q y d) ∧ Rows.uptoBulkAll ds + 1 ≤ Rows.uptoBulk x.1 := by
  rcases Deep.open_slice hT h with ⟨h0, rfl⟩ | ⟨a, len', cap', m, n', D, Pl, h0, _, hl, _, hm, rfl, hx⟩
  · simp at h0
    obtain ⟨rfl, rfl, rfl⟩ := h0
    exact ⟨[], [], View.nil, rfl, by simp, by simp [Rows.uptoBulk, Rows.uptoBulkAll]⟩
  · simp at h0
    obtain ⟨rfl, rfl, rfl⟩ := h0
    have hlm : len ≤ m := by rw [hm]; split <;> omega
    rw [hc] at hx
    have : ∀ i, i < len → ∃ y : α, Cells w.heap (a.add (i * E.w)) (E.enc y) ∧ Q y (D i) := fun i hi => by
      obtain ⟨cs', h1, h2⟩ := hx i (by omega)
      obtain ⟨y, rfl, hq⟩ := hel _ _ _ h2
      obtain ⟨_, hlen, hcc⟩ := World.cells?_some h1
      refine ⟨y, fun j v hj => ?_, hq⟩
      have hj3 : j < E.w := by rw [← E.len y]; exact (List.getElem?_eq_some_iff.1 hj).1
      have := hcc j hj3
      rw [hj] at this
      exact this
    by_cases hlen : len = 0
    · subst hlen
      refine ⟨[], [], ⟨rfl, hl, fun i y hi => by simp at hi⟩, rfl, by simp, ?_⟩
      simp [Rows.uptoBulk, Rows.uptoBulkAll]
    · obtain ⟨y0, _⟩ := this 0 (by omega)
      have : ∃ f : Nat → α, ∀ i, i < len → Cells w.heap (a.add (i * E.w)) (E.enc (f i)) ∧ Q (f i) (D i) :=
        ⟨fun i => if hi : i < len then Classical.choose (this i hi) else y0, fun i hi => by simp only [dif_pos hi]; exact Classical.choose_spec (this i hi)⟩
      obtain ⟨f, hf⟩ := this
      refine ⟨(List.range len).map f, (List.range len).map D, ⟨by simp, hl, fun i y hi => ?_⟩, by simp, fun i y d h1 h2 => ?_, ?_⟩
      · simp only [List.getElem?_map] at hi
        by_cases hil : i < len
        · simp [hil] at hi
          subst hi
          exact ⟨a, rfl, (hf i hil).1⟩
        · simp [Nat.not_lt.1 hil] at hi
      · simp only [List.getElem?_map] at h1 h2
        by_cases hil : i < len
        · simp [hil] at h1 h2
          subst h1; subst h2
          exact (hf i hil).2
        · simp [Nat.not_lt.1 hil] at h1
      · simp only [Rows.uptoBulk]
        omega
end

/-- a measure of the elements, summed -/
theorem sum_bulk {H α : Type} {f : α → Nat} : ∀ {l : List α} {ds : List (DataW H)}, l.length = ds.length → (∀ (i : Nat) y d, l[i]? = some y → ds[i]? = some d → f y ≤ Rows.uptoBulk d) → (l.map f).sum ≤ Rows.uptoBulkAll ds
  | [], _, _, _ => by simp
  | x :: l, [], h, _ => by simp at h
  | x :: l, d :: ds, h, hq => by
    have h1 := hq 0 x d rfl rfl
    have h2 := sum_bulk (f := f) (l := l) (ds := ds) (by simpa using h) (fun i y d h1 h2 => hq (i + 1) y d (by simpa using h1) (by simpa using h2))
    simp only [List.map_cons, List.sum_cons, Rows.uptoBulkAll]
    omega
theorem mem_bulk {H α : Type} {Q : α → DataW H → Prop} {l : List α} {ds : List (DataW H)} (hl : l.length = ds.length) (hq : ∀ (i : Nat) y d, l[i]? = some y → ds[i]? = some d → Q y d) {y : α} (hy : y ∈ l) : ∃ d ∈ ds, Q y d := by
  obtain ⟨i, hi, rfl⟩ := List.getElem_of_mem hy
  have hi2 : i < ds.length := by omega
  exact ⟨ds[i], List.getElem_mem hi2, hq i _ _ (List.getElem?_eq_getElem hi) (List.getElem?_eq_getElem hi2)⟩

theorem P_int : P.underlying t_int = some (.int .i64) := by kernel_rfl
theorem P_bool : P.underlying t_bool = some .bool := by kernel_rfl
theorem P_str' : P.underlying t_string = some .string := by kernel_rfl
theorem P_slstr : P.underlying t_sl_string = some (.slice t_string) := by kernel_rfl
theorem P_slint : P.underlying t_sl_int = some (.slice t_int) := by kernel_rfl
theorem P_cs : P.cellsOf t_string = 1 := by kernel_rfl
theorem P_ci : P.cellsOf t_int = 1 := by kernel_rfl

theorem wf_i64 {n : Int} (h : (Lit.int .i64 n).wf = true) : -9223372036854775808 ≤ n ∧ n ≤ 9223372036854775807 := by
  simp [Lit.wf, IntKind.min, IntKind.max, IntKind.bits, IntKind.signed] at h
  omega

section
variable {H : Type} {enc : TypeId × Value → H} {w : World} {base : Nat} {spare : Nat → Bool} {held : Bool}
theorem open_strs {n : Nat} {p : Option Addr} {len cap : Nat} {x : DataW H × List MemPlace} (h : DataW.trod enc P w base spare held n t_sl_string [.slice p len cap] = some x) :
    ∃ l : List ByteArray, View StrE w.heap ⟨p, len, cap⟩ l ∧ (l.map (·.size + 1)).sum + 1 ≤ Rows.uptoBulk x.1 := by
  obtain ⟨l, ds, V, hl, hq, hb⟩ := open_sl (E := StrE) (Q := fun y d => y.size + 1 ≤ Rows.uptoBulk d) P_slstr P_cs (fun n cs x hx => by
    obtain ⟨s, h1, h2, h3⟩ := DataW.trod_string P_str' hx
    refine ⟨s, h1, ?_⟩
    rw [h2]
    have : s.data.toList.length = s.size := by rw [Array.length_toList]; rfl
    simp only [Rows.uptoBulk]
    omega) h
  have := sum_bulk hl hq
  exact ⟨l, V, by omega⟩
theorem open_ints {n : Nat} {p : Option Addr} {len cap : Nat} {x : DataW H × List MemPlace} (h : DataW.trod enc P w base spare held n t_sl_int [.slice p len cap] = some x) :
    ∃ l : List Int, View IntE w.heap ⟨p, len, cap⟩ l ∧ l.length + 1 ≤ Rows.uptoBulk x.1 ∧ ∀ n ∈ l, -9223372036854775808 ≤ n ∧ n ≤ 9223372036854775807 := by
  obtain ⟨l, ds, V, hl, hq, hb⟩ := open_sl (E := IntE) (Q := fun y d => -9223372036854775808 ≤ y ∧ y ≤ 9223372036854775807) P_slint P_ci (fun n cs x hx => by
    obtain ⟨s, h1, h2, h3⟩ := DataW.trod_int P_int hx
    exact ⟨s, h1, wf_i64 h3⟩) h
  have := bulk_len ds
  exact ⟨l, V, by omega, fun n hn => by obtain ⟨_, _, h⟩ := mem_bulk hl hq hn; exact h⟩
end

theorem arg_strs {H : Type} {enc : TypeId × Value → H} {W : World} {base : Nat} {v : Value} {d : DataW H} {ps : List MemPlace} (hv : Value.okWide P W .any base t_sl_string v) (h : DataW.Trod enc P W 0 (fun _ => true) true t_sl_string v d ps) :
    ∃ (s : Sl) (l : List ByteArray), v = .slice s.p s.len s.cap ∧ View StrE W.heap s l ∧ (l.map (·.size + 1)).sum + 1 ≤ Rows.uptoBulk d := by
  obtain ⟨p, len, cap, rfl⟩ := okWide_slice P_slstr hv
  obtain ⟨n, hn⟩ := h
  obtain ⟨l, h1, h2⟩ := open_strs hn
  exact ⟨⟨p, len, cap⟩, l, rfl, h1, h2⟩
theorem arg_ints {H : Type} {enc : TypeId × Value → H} {W : World} {base : Nat} {v : Value} {d : DataW H} {ps : List MemPlace} (hv : Value.okWide P W .any base t_sl_int v) (h : DataW.Trod enc P W 0 (fun _ => true) true t_sl_int v d ps) :
    ∃ (s : Sl) (l : List Int), v = .slice s.p s.len s.cap ∧ View IntE W.heap s l ∧ l.length + 1 ≤ Rows.uptoBulk d ∧ ∀ n ∈ l, -9223372036854775808 ≤ n ∧ n ≤ 9223372036854775807 := by
  obtain ⟨p, len, cap, rfl⟩ := okWide_slice P_slint hv
  obtain ⟨n, hn⟩ := h
  obtain ⟨l, h1, h2⟩ := open_ints hn
  exact ⟨⟨p, len, cap⟩, l, rfl, h1, h2⟩
theorem arg_str {H : Type} {enc : TypeId × Value → H} {W : World} {base : Nat} {v : Value} {d : DataW H} {ps : List MemPlace} (hv : Value.okWide P W .any base t_string v) (h : DataW.Trod enc P W 0 (fun _ => true) true t_string v d ps) :
    ∃ s : ByteArray, v = .string s ∧ s.size + 1 ≤ Rows.uptoBulk d := by
  obtain ⟨s, rfl⟩ := okWide_string P_str' hv
  obtain ⟨n, hn⟩ := h
  obtain ⟨s', h1, h2, h3⟩ := DataW.trod_string P_str' hn
  simp [Value.cells] at h1
  subst h1
  refine ⟨s, rfl, ?_⟩
  rw [show d = _ from congrArg Prod.fst h2]
  have : s.data.toList.length = s.size := by rw [Array.length_toList]; rfl
  simp only [Rows.uptoBulk]; omega
end Go.Lf.G
