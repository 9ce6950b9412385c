/-
  Arguments of the log's statements, opened.
-/
import Derived.Test.YtbbikicpamgbmaaGreatDoorLfX7ToO2
set_option maxRecDepth 100000
set_option linter.unusedVariables false
set_option linter.unusedSimpArgs false
namespace Go.Lf.G
open Go Go.ChangeShapes Go.WideShapes Go.ChangeAt Go.RowKit Go.Proofs.YtbbikicpamgbmaaGreatDoor

theorem ws_mem {r : List ByteArray} {x : ByteArray} (h : x ∈ r) : x.size + 1 ≤ ws r := sum_mem h
theorem ws_len (r : List ByteArray) : r.length ≤ ws r := sum_len r
theorem wss_mem {ts : List (List ByteArray)} {r : List ByteArray} (h : r ∈ ts) : ws r ≤ wss ts := by
  induction ts with
  | nil => cases h
  | cons y l ih =>
    simp only [wss, List.map_cons, List.sum_cons] at ih ⊢
    rcases List.mem_cons.1 h with rfl | h
    · omega
    · have := ih h; omega
theorem flat_len (ts : List (List ByteArray)) : ts.flatten.length ≤ wss ts := by
  induction ts with
  | nil => simp
  | cons y l ih =>
    have := ws_len y
    simp only [wss, List.map_cons, List.sum_cons, List.flatten_cons, List.length_append] at ih ⊢
    omega

theorem choose_list {α β γ : Type} {Q : α → β → γ → Prop} : ∀ {l : List α} {ds : List β}, l.length = ds.length → (∀ (i : Nat) y d, l[i]? = some y → ds[i]? = some d → ∃ r, Q y d r) → ∃ rs : List γ, rs.length = l.length ∧ ∀ (i : Nat) y d r, l[i]? = some y → ds[i]? = some d → rs[i]? = some r → Q y d r
  | [], _, _, _ => ⟨[], rfl, fun i y d r h => by simp at h⟩
  | x :: l, [], h, _ => by simp at h
  | x :: l, d :: ds, h, hq => by
    obtain ⟨r, hr⟩ := hq 0 x d rfl rfl
    obtain ⟨rs, h1, h2⟩ := choose_list (l := l) (ds := ds) (by simpa using h) fun i y d' h3 h4 => hq (i + 1) y d' (by simpa using h3) (by simpa using h4)
    refine ⟨r :: rs, by simp [h1], fun i y d' r' h3 h4 h5 => ?_⟩
    cases i with
    | zero =>
      simp at h3 h4 h5
      subst h3 h4 h5
      exact hr
    | succ i => exact h2 i y d' r' (by simpa using h3) (by simpa using h4) (by simpa using h5)

theorem P_slsl : P.underlying t_sl_sl_string = some (.slice t_sl_string) := by kernel_rfl
theorem P_csl : P.cellsOf t_sl_string = 1 := by kernel_rfl
theorem P_csli : P.cellsOf t_sl_int = 1 := by kernel_rfl

section
variable {H : Type} {enc : TypeId × Value → H} {w : World} {base : Nat} {spare : Nat → Bool} {held : Bool}
theorem open_slcs {tS t : TypeId} {n : Nat} {cs : List Value} {x : DataW H × List MemPlace} (hT : P.underlying tS = some (.slice t)) (h : DataW.trod enc P w base spare held n tS cs = some x) : ∃ s : Sl, cs = [.slice s.p s.len s.cap] := by
  rcases Deep.open_slice hT h with ⟨rfl, _⟩ | ⟨a, len', cap', m, n', D, Pl, rfl, _⟩
  · exact ⟨⟨none, 0, 0⟩, rfl⟩
  · exact ⟨⟨some a, len', cap'⟩, rfl⟩
theorem open_strss {n : Nat} {p : Option Addr} {len cap : Nat} {x : DataW H × List MemPlace} (h : DataW.trod enc P w base spare held n t_sl_sl_string [.slice p len cap] = some x) :
    ∃ (sls : List Sl) (ts : List (List ByteArray)), View SlE w.heap ⟨p, len, cap⟩ sls ∧ sls.length = ts.length ∧ (∀ (i : Nat) s r, sls[i]? = some s → ts[i]? = some r → View StrE w.heap s r) ∧ wss ts + 1 ≤ Rows.uptoBulk x.1 := by
  obtain ⟨sls, ds, V, hl, hq, hb⟩ := open_sl (E := SlE) (Q := fun y d => ∃ r, View StrE w.heap y r ∧ ws r ≤ Rows.uptoBulk d) P_slsl P_csl (fun n cs x hx => by
    obtain ⟨s, rfl⟩ := open_slcs P_slstr hx
    obtain ⟨l, h1, h2⟩ := open_strs hx
    exact ⟨s, rfl, l, h1, by unfold ws; omega⟩) h
  obtain ⟨ts, h1, h2⟩ := choose_list hl hq
  have hd : ∀ i, i < sls.length → ∃ d, ds[i]? = some d := fun i hi => ⟨_, List.getElem?_eq_getElem (by omega)⟩
  have hs : (ts.map ws).sum ≤ Rows.uptoBulkAll ds := sum_bulk (by omega) fun i r d hr hdi => by
    have hi : i < ts.length := (List.getElem?_eq_some_iff.1 hr).1
    have hy : sls[i]? = some sls[i] := List.getElem?_eq_getElem (by omega)
    exact (h2 i _ d r hy hdi hr).2
  refine ⟨sls, ts, V, by omega, fun i s r hsi hri => ?_, by unfold wss; omega⟩
  have hi : i < sls.length := (List.getElem?_eq_some_iff.1 hsi).1
  obtain ⟨d, hdi⟩ := hd i hi
  exact (h2 i s d r hsi hdi hri).1
end
theorem arg_strss {H : Type} {enc : TypeId × Value → H} {W : World} {base : Nat} {v : Value} {d : DataW H} {ps : List MemPlace} (hv : Value.okWide P W .any base t_sl_sl_string v) (h : DataW.Trod enc P W 0 (fun _ => true) true t_sl_sl_string v d ps) :
    ∃ (s : Sl) (l : List Sl × List (List ByteArray)), v = .slice s.p s.len s.cap ∧ (View SlE W.heap s l.1 ∧ l.1.length = l.2.length ∧ ∀ (i : Nat) s r, l.1[i]? = some s → l.2[i]? = some r → View StrE W.heap s r) ∧ wss l.2 + 1 ≤ Rows.uptoBulk d := by
  obtain ⟨p, len, cap, rfl⟩ := okWide_slice P_slsl hv
  obtain ⟨n, hn⟩ := h
  obtain ⟨sls, ts, h1, h2, h3, h4⟩ := open_strss hn
  exact ⟨⟨p, len, cap⟩, (sls, ts), rfl, ⟨h1, h2, h3⟩, h4⟩

/-! ### a struct: records, when to sync, fuel, what is kept -/
def fieldsOf (P : Program) (t : TypeId) : Option (List (TypeId × Nat)) := match P.underlying t with
  | some (.struct fs) => some (fs.toList.map fun f => (f.type, f.offset))
  | _ => none
section
variable {H : Type} {enc : TypeId × Value → H} {w : World} {base : Nat} {spare : Nat → Bool} {held : Bool}
theorem open_fields {t : TypeId} {fts : List (TypeId × Nat)} {n : Nat} {cs : List Value} {x : DataW H × List MemPlace} (ht : fieldsOf P t = some fts) (h : DataW.trod enc P w base spare held n t cs = some x) :
    ∃ (xs : List (DataW H × List MemPlace)) (m : Nat), x = (.agg (xs.map (·.1)), xs.flatMap (·.2)) ∧ cs.length = P.cellsOf t ∧ xs.length = fts.length ∧
      ∀ (i : Nat) (f : TypeId × Nat), fts[i]? = some f → DataW.trod enc P w base spare held m f.1 ((cs.drop f.2).take (P.cellsOf f.1)) = xs[i]? := by
  unfold fieldsOf at ht
  split at ht
  · rename_i fs hfs
    simp at ht
    subst ht
    obtain ⟨xs, m, _, rfl, h1, h2, h3⟩ := DataW.trod_struct hfs h
    refine ⟨xs, m, rfl, h1, by simpa using h2, fun i f hf => ?_⟩
    simp only [List.getElem?_map, Option.map_eq_some_iff, Array.getElem?_toList] at hf
    obtain ⟨g, hg, rfl⟩ := hf
    exact h3 i g hg
  · cases ht
end
theorem P_part : fieldsOf P t_wherrylaw04_Part = some [(t_sl_string, 0), (t_int, 1), (t_int, 2), (t_sl_int, 3)] := by kernel_rfl
theorem P_parts : ∃ fs, P.underlying t_wherrylaw04_Part = some (.struct fs) := ⟨_, Proofs.Tryz.underlying38⟩
theorem P_cpart : P.cellsOf t_wherrylaw04_Part = 4 := by kernel_rfl
theorem arg_part {H : Type} {enc : TypeId × Value → H} {W : World} {base : Nat} {v : Value} {d : DataW H} {ps : List MemPlace} (hv : Value.okWide P W .any base t_wherrylaw04_Part v) (h : DataW.Trod enc P W 0 (fun _ => true) true t_wherrylaw04_Part v d ps) :
    ∃ (s : (Sl × Sl) × (Int × Int)) (l : List ByteArray × List Int), v = .agg #[.slice s.1.1.p s.1.1.len s.1.1.cap, .int .i64 s.2.1, .int .i64 s.2.2, .slice s.1.2.p s.1.2.len s.1.2.cap] ∧ (View StrE W.heap s.1.1 l.1 ∧ View IntE W.heap s.1.2 l.2 ∧ (-9223372036854775808 ≤ s.2.2 ∧ s.2.2 ≤ 9223372036854775807)) ∧ ws l.1 + 1 ≤ Rows.uptoBulk d := by
  obtain ⟨fs, hfs⟩ := P_parts
  obtain ⟨cs, rfl, hcs⟩ := okWide_struct hfs hv
  obtain ⟨n, hn⟩ := h
  have hcl : (Value.agg cs).cells.toList = cs.toList := rfl
  rw [hcl] at hn
  obtain ⟨xs, m, hx, h1, h2, h3⟩ := open_fields P_part hn
  have hd : d = .agg (xs.map (·.1)) := congrArg Prod.fst hx
  subst hd
  rw [P_cpart] at h1
  obtain ⟨cl⟩ := cs
  match cl, h1 with
  | [c0, c1, c2, c3], _ =>
    match xs, h2 with
    | [x0, x1, x2, x3], _ =>
      have k0 := h3 0 _ rfl
      have k1 := h3 1 _ rfl
      have k2 := h3 2 _ rfl
      have k3 := h3 3 _ rfl
      simp only [P_csl, P_ci, P_csli] at k0 k1 k2 k3
      obtain ⟨s0, e0⟩ := open_slcs P_slstr k0
      obtain ⟨n1, e1, _, _⟩ := DataW.trod_int P_int k1
      obtain ⟨n2, e2, _, w2⟩ := DataW.trod_int P_int k2
      obtain ⟨s3, e3⟩ := open_slcs P_slint k3
      have e0' : [c0] = [.slice s0.p s0.len s0.cap] := e0
      have e3' : [c3] = [.slice s3.p s3.len s3.cap] := e3
      simp at e0 e1 e2 e3
      subst e0 e1 e2 e3
      obtain ⟨l0, v0, b0⟩ := open_strs (p := s0.p) (len := s0.len) (cap := s0.cap) k0
      obtain ⟨l3, v3, b3, _⟩ := open_ints (p := s3.p) (len := s3.len) (cap := s3.cap) k3
      refine ⟨((s0, s3), (n1, n2)), (l0, l3), rfl, ⟨v0, v3, wf_i64 w2⟩, ?_⟩
      unfold ws
      simp only [List.map_cons, List.map_nil, Rows.uptoBulk, Rows.uptoBulkAll]
      omega
theorem WalParts_ok' {A : Amb} {h : Heap} {s : (Sl × Sl) × (Int × Int)} {l : List ByteArray × List Int} {R : Value → Heap → Prop} (E : Evn h) (f : View StrE h s.1.1 l.1 ∧ View IntE h s.1.2 l.2 ∧ (-9223372036854775808 ≤ s.2.2 ∧ s.2.2 ≤ 9223372036854775807)) (hw : ws l.1 ≤ 1048576)
    (H : ∀ h', Ext h h' → R (.bool true) h') : HCalls A P f_wherrylaw04_WalParts #[.agg #[.slice s.1.1.p s.1.1.len s.1.1.cap, .int .i64 s.2.1, .int .i64 s.2.2, .slice s.1.2.p s.1.2.len s.1.2.cap]] h R :=
  WalParts_ok E f.1 f.2.1 f.2.2 hw (Nat.le_trans (ws_len _) hw) (fun x hx => by have := ws_mem hx; omega) H
theorem WalTimes_ok' {A : Amb} {h : Heap} {times keep : Sl} {l : List Sl × List (List ByteArray)} {ks : List Int} {R : Value → Heap → Prop} (E : Evn h) (f : View SlE h times l.1 ∧ l.1.length = l.2.length ∧ ∀ (i : Nat) s r, l.1[i]? = some s → l.2[i]? = some r → View StrE h s r) (vk : View IntE h keep ks) (hk : ks.length ≤ 1048576) (hw : wss l.2 ≤ 1048576)
    (H : ∀ h', Ext h h' → R (.bool true) h') : HCalls A P f_wherrylaw04_WalTimes #[.slice times.p times.len times.cap, .slice keep.p keep.len keep.cap] h R :=
  WalTimes_ok E f.1 f.2.1 f.2.2 vk hk hw (fun r hr x hx => by have := wss_mem hr; have := ws_mem hx; omega) (fun r hr => by have := wss_mem hr; have := ws_len r; omega) (by have := flat_len l.2; omega) H
end Go.Lf.G

