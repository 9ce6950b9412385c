/-
  Rows: arguments opened, what is asked behind the call.
-/
import Derived.Test.YtdaodhcpiafgfaaLfM7
import Derived.Test.YtdaodhcpiafgfaaRows
import Derived.WalkKit
import Derived.ProofKit
import Derived.OpenShut
import Derived.JoinedCond
import Derived.Deep.Slices
import Derived.Carry
set_option maxRecDepth 100000
namespace Go.Lf.G
open Go Go.ChangeShapes Go.WideShapes Go.ChangeAt Go.RowKit Go.Proofs.Ytdaodhcpiafgfaa

theorem bulk_one {H : Type} (d : DataW H) : 1 ≤ Rows.uptoBulk d := by
  cases d with
  | lit l => cases l <;> simp [Rows.uptoBulk]
  | nil => simp [Rows.uptoBulk]
  | ptr d => simp [Rows.uptoBulk]
  | slice elems spare => simp [Rows.uptoBulk]
  | agg parts => simp [Rows.uptoBulk]
  | iface t d => simp [Rows.uptoBulk]
  | map entries => simp [Rows.uptoBulk]
  | held h => simp [Rows.uptoBulk]

theorem bulk_len {H : Type} (l : List (DataW H)) : l.length ≤ Rows.uptoBulkAll l := by
  induction l with
  | nil => simp [Rows.uptoBulkAll]
  | cons x r ih => have := bulk_one x; simp only [Rows.uptoBulkAll, List.length_cons]; omega

theorem bulk_append {H : Type} (l r : List (DataW H)) : Rows.uptoBulkAll (l ++ r) = Rows.uptoBulkAll l + Rows.uptoBulkAll r := by
  induction l with
  | nil => simp [Rows.uptoBulkAll]
  | cons x l ih => simp only [List.cons_append, Rows.uptoBulkAll, ih]; omega

theorem bulk_total {H : Type} (D : Nat → DataW H) (L : Nat → List Pr) : ∀ l : List Nat, (∀ i ∈ l, (L i).length ≤ Rows.uptoBulk (D i)) → total (l.map L) ≤ Rows.uptoBulkAll (l.map D)
  | [], _ => Nat.le_refl _
  | i :: l, h => by
    have := bulk_total D L l fun j hj => h j (by simp [hj])
    have := h i (by simp)
    rw [List.map_cons, List.map_cons, total_cons, Rows.uptoBulkAll]
    omega

theorem stays_all {H : Type} {enc : TypeId × Value → H} {P : Program} (hl : laidOutB P = true) {W W' : World} {sp : Nat → Bool} : ∀ {ts : List TypeId} {vs : List Value} {ds : List (DataW H)} {ps : List MemPlace},
    (ts.all fun t => P.readableRec t && decide (t < P.types.size)) = true → DataW.TrodAll enc P W 0 (fun _ => true) true ts vs ds ps → (∀ p ∈ ps, W.sameAt W' p) → (∀ p ∈ ps, sp p.block = true) → DataW.TrodAll enc P W' 0 sp true ts vs ds ps
  | [], [], [], _, _, h, _, _ => h
  | t :: ts, v :: vs, d :: ds, _, hr, ⟨p, q, h1, h2, e⟩, hs, hsp => by
    simp only [List.all_cons, Bool.and_eq_true, decide_eq_true_eq] at hr
    subst e
    exact ⟨p, q, WideElems.Trod_stays hl hr.1.1 hr.1.2 h1 (fun x hx => hs x (List.mem_append_left _ hx)) (fun x hx => hsp x (List.mem_append_left _ hx)),
      stays_all hl (by simpa using hr.2) h2 (fun x hx => hs x (List.mem_append_right _ hx)) (fun x hx => hsp x (List.mem_append_right _ hx)), rfl⟩

/-- the world of a call, in parts -/
def ambOf (W : World) : Amb := ⟨W.tape, W.os, W.output⟩
theorem ambOf_at (W : World) : (ambOf W).at W.heap W.drawn = W := rfl

theorem row_post {H : Type} {enc : TypeId × Value → H} {P : Program} {f : Func} {s : ChangeSpec} {W : World} {args : Array Value} {ds gs : List (DataW H)} {before : List MemPlace} {tb : TypeId} {h' : Heap} {n' : Nat}
    (hW : DataW.Whole enc P f.params.toList s.vars false W args.toList ds gs before) (hvars : s.vars = []) (hres : (s.fn H (ds ++ gs)).results = [.lit (.bool true)]) (hargs : (s.fn H (ds ++ gs)).args = ds) (hvs : (s.fn H (ds ++ gs)).vars = [])
    (hl : laidOutB P = true) (hp : (f.params.toList.all fun t => P.readableRec t && decide (t < P.types.size)) = true) (hr : f.resultTypes = #[tb]) (hb : P.underlying tb = some .bool) (x : Ext W.heap h') :
    s.post enc P f false true false false W args (.bool true) ((ambOf W).at h' n') := by
  have hlt := fun p (hp : p ∈ before) => hW.lt p hp
  have hsame : ∀ p ∈ before, W.sameAt ((ambOf W).at h' n') p := fun p hp => by
    have hb2 : h'[p.block]? = W.heap[p.block]? := x.get _ (hlt p hp) (fun h => h)
    cases p with
    | cell b off =>
      show hget h' ⟨b, off, none⟩ = hget W.heap ⟨b, off, none⟩
      exact hget_blk hb2
    | map b => exact hb2
  obtain ⟨p, q, hA, hV, rfl, hz, hn⟩ := id hW
  rw [hvars] at hV
  have hgs : gs = [] ∧ q = [] := by
    cases gs with
    | nil => exact ⟨rfl, hV⟩
    | cons _ _ => exact hV.elim
  obtain ⟨rfl, rfl⟩ := hgs
  refine ⟨ds, [], p ++ [], [], p, [], hW, ?_, ?_, ?_, ?_, fun h => by cases h⟩
  · rw [hres, hr]
    exact ⟨[], [], ⟨1, by simp [DataW.trod, Value.cells, hb]⟩, rfl, rfl⟩
  · rw [hargs]
    exact stays_all hl hp hA (fun y hy => hsame y (List.mem_append_left _ hy)) (fun y hy => by simpa using hlt y (List.mem_append_left _ hy))
  · rw [hvars, hvs]; rfl
  · refine ⟨rfl, rfl, fun i hi => ?_⟩
    have e : ((ambOf W).at h' n').heap[i]? = W.heap[i]? := x.get i hi (fun h => h)
    rw [e]
    cases h1 : W.heap[i]? with
    | none => trivial
    | some o =>
      cases o with
      | cells c t fr => exact ⟨rfl, rfl, rfl, fun _ _ => rfl⟩
      | map es clock => exact .inr ⟨rfl, rfl⟩
      | _ => rfl

section
variable {H : Type} {enc : TypeId × Value → H} {w : World} {base : Nat} {spare : Nat → Bool} {held : Bool}

instance : Inhabited Pr := ⟨⟨⟨#[]⟩, ⟨#[]⟩, false⟩⟩
instance : Inhabited Sl := ⟨⟨none, 0, 0⟩⟩

theorem P_int : P.underlying t_int = some (.int .i64) := by kernel_rfl
theorem P_slp : P.underlying t_sl_api_Pair = some (.slice t_api_Pair) := by kernel_rfl
theorem P_slslp : P.underlying t_sl_sl_api_Pair = some (.slice t_sl_api_Pair) := by kernel_rfl
theorem P_cp : P.cellsOf t_api_Pair = 3 := by kernel_rfl
theorem P_cs : P.cellsOf t_string = 1 := by kernel_rfl
theorem P_cb : P.cellsOf t_bool = 1 := by kernel_rfl
theorem P_csl : P.cellsOf t_sl_api_Pair = 1 := by kernel_rfl
theorem P_fields (i : Nat) (f : Field) (h : (P.fieldsOf t_api_Pair).toList[i]? = some f) : (P.fieldsOf t_api_Pair)[i]? = some f := by simpa using h

theorem open_pair {n : Nat} {cs : List Value} {x : DataW H × List MemPlace} (h : DataW.trod enc P w base spare held n t_api_Pair cs = some x) : ∃ y : Pr, cs = PairE.enc y := by
  obtain ⟨xs, m, _, _, hl, hxl, hf⟩ := DataW.trod_struct P_pair h
  rw [P_cp] at hl
  have hsz : (P.fieldsOf t_api_Pair).size = 3 := by rw [← Array.length_toList, P_pair4]; rfl
  rw [hsz] at hxl
  have f0 := hf 0 _ (P_fields 0 _ (by rw [P_pair4]; rfl))
  have f1 := hf 1 _ (P_fields 1 _ (by rw [P_pair4]; rfl))
  have f2 := hf 2 _ (P_fields 2 _ (by rw [P_pair4]; rfl))
  simp only [P_cs, P_cb] at f0 f1 f2
  rw [List.getElem?_eq_getElem (by omega)] at f0 f1 f2
  obtain ⟨s0, e0, _, _⟩ := DataW.trod_string P_str f0
  obtain ⟨s1, e1, _, _⟩ := DataW.trod_string P_str f1
  obtain ⟨b2, e2, _⟩ := DataW.trod_bool P_bool f2
  match cs, hl with
  | [c0, c1, c2], _ =>
    simp at e0 e1 e2
    exact ⟨⟨s0, s1, b2⟩, by rw [e0, e1, e2]; rfl⟩

theorem open_pairs {n : Nat} {p : Option Addr} {len cap : Nat} {x : DataW H × List MemPlace} (h : DataW.trod enc P w base spare held n t_sl_api_Pair [.slice p len cap] = some x) :
    ∃ l : List Pr, View PairE w.heap ⟨p, len, cap⟩ l ∧ l.length ≤ Rows.uptoBulk x.1 := by
  rcases Deep.open_slice P_slp h with ⟨h0, rfl⟩ | ⟨a, len', cap', m, n', D, Pl, h0, _, hl, _, hm, rfl, hx⟩
  · simp at h0
    obtain ⟨rfl, rfl, rfl⟩ := h0
    exact ⟨[], View.nil, by simp⟩
  · simp at h0
    obtain ⟨rfl, rfl, rfl⟩ := h0
    have hlm : len ≤ m := by rw [hm]; split <;> omega
    rw [P_cp] at hx
    have : ∀ i, i < len → ∃ y : Pr, Cells w.heap (a.add (i * 3)) (PairE.enc y) := fun i hi => by
      obtain ⟨cs', h1, h2⟩ := hx i (by omega)
      obtain ⟨y, rfl⟩ := open_pair h2
      obtain ⟨_, hlen, hc⟩ := World.cells?_some h1
      refine ⟨y, fun j v hj => ?_⟩
      have hj3 : j < 3 := (List.getElem?_eq_some_iff.1 hj).1
      have := hc j hj3
      rw [hj] at this
      exact this
    obtain ⟨f, hf⟩ := Deep.choose_lt this
    refine ⟨(List.range len).map f, ⟨by simp, hl, fun i y hi => ?_⟩, ?_⟩
    · simp only [List.getElem?_map] at hi
      by_cases hil : i < len
      · simp [hil] at hi
        subst hi
        exact ⟨a, rfl, hf i hil⟩
      · simp [Nat.not_lt.1 hil] at hi
    · have := bulk_len ((List.range len).map D)
      simp only [Rows.uptoBulk]
      simp at this ⊢
      omega

theorem open_lists {n : Nat} {p : Option Addr} {len cap : Nat} {x : DataW H × List MemPlace} (h : DataW.trod enc P w base spare held n t_sl_sl_api_Pair [.slice p len cap] = some x) :
    ∃ ls : List (List Pr), LV w.heap ⟨p, len, cap⟩ ls ∧ ls.length ≤ Rows.uptoBulk x.1 ∧ total ls ≤ Rows.uptoBulk x.1 := by
  rcases Deep.open_slice1 P_slslp P_csl h with ⟨h0, rfl⟩ | ⟨a, len', cap', m, n', V, D, Pl, h0, _, hl, _, hm, rfl, hx⟩
  · simp at h0
    obtain ⟨rfl, rfl, rfl⟩ := h0
    exact ⟨[], ⟨[], View.nil, rfl, fun i sl l h => by simp at h⟩, by simp, by simp [total]⟩
  · simp at h0
    obtain ⟨rfl, rfl, rfl⟩ := h0
    have hlm : len ≤ m := by rw [hm]; split <;> omega
    have : ∀ i, i < len → ∃ y : Sl × List Pr, w.cell? (a.add i) = some (.slice y.1.p y.1.len y.1.cap) ∧ View PairE w.heap y.1 y.2 ∧ y.2.length ≤ Rows.uptoBulk (D i) := fun i hi => by
      obtain ⟨h1, h2⟩ := hx i (by omega)
      have hv : ∃ p len cap, V i = .slice p len cap := by
        rcases Deep.open_slice P_slp h2 with ⟨h0, _⟩ | ⟨a, len', cap', _, _, _, _, h0, _⟩
        · simp at h0; exact ⟨_, _, _, h0⟩
        · simp at h0; exact ⟨_, _, _, h0⟩
      obtain ⟨p1, l1, c1, hv⟩ := hv
      rw [hv] at h1 h2
      obtain ⟨l, v, hb⟩ := open_pairs h2
      exact ⟨(⟨p1, l1, c1⟩, l), h1, v, hb⟩
    obtain ⟨f, hf⟩ := Deep.choose_lt this
    have hbt := bulk_total D (fun i => (f i).2) (List.range len) (fun i hi => (hf i (List.mem_range.1 hi)).2.2)
    refine ⟨(List.range len).map fun i => (f i).2, ⟨(List.range len).map fun i => (f i).1, ⟨by simp, hl, fun i y hi => ?_⟩, by simp, fun i sl l h1 h2 => ?_⟩, ?_, ?_⟩
    · simp only [List.getElem?_map] at hi
      by_cases hil : i < len
      · simp [hil] at hi
        subst hi
        refine ⟨a, rfl, fun j v hj => ?_⟩
        have hc := (hf i hil).1
        match j, hj with
        | 0, hj =>
          have : v = .slice (f i).1.p (f i).1.len (f i).1.cap := by simpa [SlE, eq_comm] using hj
          rw [add_zero, show i * SlE.w = i from Nat.mul_one i, this]
          exact hc
        | j + 1, hj => simp [SlE] at hj
      · simp [Nat.not_lt.1 hil] at hi
    · simp only [List.getElem?_map] at h1 h2
      by_cases hil : i < len
      · simp [hil] at h1 h2
        subst h1; subst h2
        exact (hf i hil).2.1
      · simp [Nat.not_lt.1 hil] at h1
    · have := bulk_len ((List.range len).map D)
      simp only [Rows.uptoBulk]
      simp at this ⊢
      omega
    · simp only [Rows.uptoBulk]
      omega
end

theorem laid : laidOutB P = true := by kernel_rfl

theorem arg_lists {H : Type} {enc : TypeId × Value → H} {W : World} {base : Nat} {v : Value} {d : DataW H} {ps : List MemPlace} (hv : Value.okWide P W .any base t_sl_sl_api_Pair v) (h : DataW.Trod enc P W 0 (fun _ => true) true t_sl_sl_api_Pair v d ps) :
    ∃ (s : Sl) (ls : List (List Pr)), v = .slice s.p s.len s.cap ∧ LV W.heap s ls ∧ ls.length ≤ Rows.uptoBulk d ∧ total ls ≤ Rows.uptoBulk d := by
  obtain ⟨p, len, cap, rfl⟩ := okWide_slice P_slslp hv
  obtain ⟨n, hn⟩ := h
  obtain ⟨ls, h1, h2, h3⟩ := open_lists hn
  exact ⟨⟨p, len, cap⟩, ls, rfl, h1, h2, h3⟩

theorem arg_pairs {H : Type} {enc : TypeId × Value → H} {W : World} {base : Nat} {v : Value} {d : DataW H} {ps : List MemPlace} (hv : Value.okWide P W .any base t_sl_api_Pair v) (h : DataW.Trod enc P W 0 (fun _ => true) true t_sl_api_Pair v d ps) :
    ∃ (s : Sl) (l : List Pr), v = .slice s.p s.len s.cap ∧ View PairE W.heap s l ∧ l.length ≤ Rows.uptoBulk d := by
  obtain ⟨p, len, cap, rfl⟩ := okWide_slice P_slp hv
  obtain ⟨n, hn⟩ := h
  obtain ⟨ls, h1, h2⟩ := open_pairs hn
  exact ⟨⟨p, len, cap⟩, ls, rfl, h1, h2⟩
end Go.Lf.G
