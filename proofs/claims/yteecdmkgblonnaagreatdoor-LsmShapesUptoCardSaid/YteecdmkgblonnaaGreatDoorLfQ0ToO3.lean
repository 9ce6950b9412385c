/-
 Calls, maps beside a store (chapter 9): what the laws share.
-/
import Derived.Test.YteecdmkgblonnaaGreatDoorLfZ16ToM8
set_option linter.unusedVariables false
set_option linter.unusedSimpArgs false
set_option maxRecDepth 100000
set_option linter.unusedVariables false
set_option linter.unusedSimpArgs false
namespace Go.Lf.G
open Go
open M (Sorted findK putL putsL refAllL findLs GoodL wrongP OkL liveL atK thereK)
structure CallC where
 kind : Int
 bs : Sl
 key : ByteArray
 til : ByteArray
 most : Int
 ks : Sl
def CallE : Enc CallC where
 enc x := [.int .i64 x.kind, .slice x.bs.p x.bs.len x.bs.cap, .string x.key, .string x.til, .int .i64 x.most, .slice x.ks.p x.ks.len x.ks.cap]
 w := 6
 len _ := rfl
 pos := by omega
 one x v hv := by simp at hv; rcases hv with rfl | rfl | rfl | rfl | rfl | rfl <;> rfl
/-- what a call holds -/
structure CallOk (N : Nat) (h : Heap) (x : CallC) (l : List Pr) (ks : List Int) : Prop where
 bs : View PairE h x.bs l
 ks : View IntE h x.ks ks
 key : x.key.size ≤ N
theorem view_lt {α : Type} {E : Enc α} {h : Heap} {s : Sl} {l : List α} (v : View E h s l) (hl : l ≠ []) {b : Nat} (hb : s.blk = some b) : b < h.size := by
 cases l with
 | nil => exact absurd rfl hl
 | cons x l =>
  obtain ⟨a, ha, hc⟩ := v.cells 0 x rfl
  have hp := E.pos
  have hle := E.len x
  obtain ⟨u, hu⟩ : ∃ u, (E.enc x)[0]? = some u := ⟨_, List.getElem?_eq_getElem (by omega)⟩
  have := hget_lt (hc 0 u hu)
  rw [add_block, add_block] at this
  have e : a.block = b := by simpa [Sl.blk, ha] using hb
  omega
section
variable {A : Amb} {B : Bud} {g h : Heap} {q : Hp} {k : Nat → Nat} {st : Db} {m : Bx} {D : Disk} {age c : Nat} {R : Value → Heap → Prop}
theorem StoreAt.put {age' c' : Nat} (S : StoreAt B g h q k st m D age c) (h1 : age ≤ age') (h2 : c ≤ c') (h3 : c' ≤ B.C) : StoreAt B g h q k st m D age' c' := (S.age h1).more h2 h3
theorem StoreAt.args (S : StoreAt B g h q k st m D age c) {s : Sl} {l : List Pr} (v : View PairE g s l) : l ≠ [] → ∀ b, s.blk = some b → b < h.size ∧ k b = 0 := fun hl b hb => by
 have h1 := view_lt v hl hb
 have := S.mem.ext.size
 exact ⟨by omega, S.base h1⟩
/-- a map beside a store -/
structure MapAt (h : Heap) (k : Nat → Nat) (bm : Nat) (sm : Sl) (mp : List Pr) : Prop where
 cell : h[bm]? = some (.cells #[.slice sm.p sm.len sm.cap] t_wherryref09_Map (0, 0))
 kz : k bm = 0
 view : View PairE h sm mp
 blk : ∀ c, sm.blk = some c → k c = 0 ∧ c < h.size ∧ c ≠ bm
theorem MapAt.lt {bm : Nat} {sm : Sl} {mp : List Pr} (M : MapAt h k bm sm mp) : bm < h.size := (Array.getElem?_eq_some_iff.1 M.cell).1
/-- a step of the store leaves the map where it is -/
theorem MapAt.step {h' : Heap} {k' : Nat → Nat} {bm : Nat} {sm : Sl} {mp : List Pr} {S : Nat → Prop} (M : MapAt h k bm sm mp) (md : Mod S h h') (hS : ∀ c, S c → k c ≠ 0 ∨ h.size ≤ c) (hk : ∀ c, k' c ≠ 0 → k c ≠ 0 ∨ h.size ≤ c) : MapAt h' k' bm sm mp := by
 have hl := M.lt
 have sz := md.size
 have nk : ∀ c, k c = 0 → c < h.size → k' c = 0 := fun c h1 h2 => Decidable.byContradiction fun h3 => by
  rcases hk c h3 with h4 | h4
  ·exact h4 h1
  ·omega
 have ns : ∀ c, k c = 0 → c < h.size → ¬ S c := fun c h1 h2 h3 => by
  rcases hS c h3 with h4 | h4
  ·exact h4 h1
  ·omega
 exact ⟨md.blk M.cell (ns _ M.kz hl), nk _ M.kz hl, M.view.mod md fun c hc => ns _ (M.blk c hc).1 (M.blk c hc).2.1, fun c hc => ⟨nk _ (M.blk c hc).1 (M.blk c hc).2.1, by have := (M.blk c hc).2.1; omega, (M.blk c hc).2.2⟩⟩
theorem MapAt.ext {h' : Heap} {bm : Nat} {sm : Sl} {mp : List Pr} (M : MapAt h k bm sm mp) (x : Ext h h') : MapAt h' k bm sm mp := M.step x (fun _ h => h.elim) (fun _ h => .inl h)
end
end Go.Lf.G

/-
 Arguments of the store's statements, opened.
-/
set_option maxRecDepth 100000
set_option linter.unusedVariables false
set_option linter.unusedSimpArgs false
namespace Go.Lf.G
open Go Go.ChangeShapes Go.WideShapes Go.ChangeAt Go.RowKit Go.Proofs.YteecdmkgblonnaaGreatDoor
theorem bulk_mem {H : Type} {d : DataW H} : ∀ {ds : List (DataW H)}, d ∈ ds → Rows.uptoBulk d ≤ Rows.uptoBulkAll ds
 | [], h => by cases h
 | x :: l, h => by
  unfold Rows.uptoBulkAll
  rcases List.mem_cons.1 h with rfl | h
  ·omega
  ·have := bulk_mem h; omega
theorem choose_list {α β γ : Type} {Q : α → β → γ → Prop} : ∀ {l : List α} {ds : List β}, l.length = ds.length → (∀ (i : Nat) y d, l[i]? = some y → ds[i]? = some d → ∃ r, Q y d r) → ∃ rs : List γ, rs.length = l.length ∧ ∀ (i : Nat) y d r, l[i]? = some y → ds[i]? = some d → rs[i]? = some r → Q y d r
 | [], _, _, _ => ⟨[], rfl, fun i y d r h => by simp at h⟩
 | x :: l, [], h, _ => by simp at h
 | x :: l, d :: ds, h, hq => by
  obtain ⟨r, hr⟩ := hq 0 x d rfl rfl
  obtain ⟨rs, h1, h2⟩ := choose_list (l := l) (ds := ds) (by simpa using h) fun i y d' h3 h4 => hq (i + 1) y d' (by simpa using h3) (by simpa using h4)
  refine ⟨r :: rs, by simp [h1], fun i y d' r' h3 h4 h5 => ?_⟩
  cases i with
  | zero =>
   simp at h3 h4 h5
   subst h3 h4 h5
   exact hr
  | succ i => exact h2 i y d' r' (by simpa using h3) (by simpa using h4) (by simpa using h5)
theorem P_csli : P.cellsOf t_sl_int = 1 := by kernel_rfl
theorem P_cslp : P.cellsOf t_sl_api_Pair = 1 := by kernel_rfl
section
variable {H : Type} {enc : TypeId × Value → H} {w : World} {base : Nat} {spare : Nat → Bool} {held : Bool}
theorem open_slcs {tS t : TypeId} {n : Nat} {cs : List Value} {x : DataW H × List MemPlace} (hT : P.underlying tS = some (.slice t)) (h : DataW.trod enc P w base spare held n tS cs = some x) : ∃ s : Sl, cs = [.slice s.p s.len s.cap] := by
 rcases Deep.open_slice hT h with ⟨rfl, _⟩ | ⟨a, len', cap', m, n', D, Pl, rfl, _⟩
 ·exact ⟨⟨none, 0, 0⟩, rfl⟩
 ·exact ⟨⟨some a, len', cap'⟩, rfl⟩
end
/-! ### structs -/
def fieldsOf (P : Program) (t : TypeId) : Option (List (TypeId × Nat)) := match P.underlying t with
 | some (.struct fs) => some (fs.toList.map fun f => (f.type, f.offset))
 | _ => none
section
variable {H : Type} {enc : TypeId × Value → H} {w : World} {base : Nat} {spare : Nat → Bool} {held : Bool}
theorem open_fields {t : TypeId} {fts : List (TypeId × Nat)} {n : Nat} {cs : List Value} {x : DataW H × List MemPlace} (ht : fieldsOf P t = some fts) (h : DataW.trod enc P w base spare held n t cs = some x) :
  ∃ (xs : List (DataW H × List MemPlace)) (m : Nat), x = (.agg (xs.map (·.1)), xs.flatMap (·.2)) ∧ cs.length = P.cellsOf t ∧ xs.length = fts.length ∧
   ∀ (i : Nat) (f : TypeId × Nat), fts[i]? = some f → DataW.trod enc P w base spare held m f.1 ((cs.drop f.2).take (P.cellsOf f.1)) = xs[i]? := by
 unfold fieldsOf at ht
 split at ht
 ·rename_i fs hfs
  simp at ht
  subst ht
  obtain ⟨xs, m, _, rfl, h1, h2, h3⟩ := DataW.trod_struct hfs h
  refine ⟨xs, m, rfl, h1, by simpa using h2, fun i f hf => ?_⟩
  simp only [List.getElem?_map, Option.map_eq_some_iff, Array.getElem?_toList] at hf
  obtain ⟨g, hg, rfl⟩ := hf
  exact h3 i g hg
 ·cases ht
end
theorem P_call : fieldsOf P t_wherrylaw09_Call = some [(t_int, 0), (t_sl_api_Pair, 1), (t_string, 2), (t_string, 3), (t_int, 4), (t_sl_int, 5)] := by kernel_rfl
theorem P_ccall : P.cellsOf t_wherrylaw09_Call = CallE.w := by kernel_rfl
theorem P_slcall : P.underlying t_sl_wherrylaw09_Call = some (.slice t_wherrylaw09_Call) := by kernel_rfl
section
variable {H : Type} {enc : TypeId × Value → H} {w : World} {base : Nat} {spare : Nat → Bool} {held : Bool}
theorem open_call {n : Nat} {cs : List Value} {x : DataW H × List MemPlace} (h : DataW.trod enc P w base spare held n t_wherrylaw09_Call cs = some x) :
  ∃ y : CallC, cs = CallE.enc y ∧ ∃ l ks, CallOk (Rows.uptoBulk x.1) w.heap y l ks := by
 obtain ⟨xs, m, hx, h1, h2, h3⟩ := open_fields P_call h
 rw [P_ccall] at h1
 match cs, h1 with
 | [c0, c1, c2, c3, c4, c5], _ =>
  match xs, h2 with
  | [x0, x1, x2, x3, x4, x5], _ =>
   have k0 := h3 0 _ rfl
   have k1 := h3 1 _ rfl
   have k2 := h3 2 _ rfl
   have k3 := h3 3 _ rfl
   have k4 := h3 4 _ rfl
   have k5 := h3 5 _ rfl
   simp only [P_cslp, P_ci, P_csli, P_cs] at k0 k1 k2 k3 k4 k5
   obtain ⟨n0, e0, _, _⟩ := DataW.trod_int P_int k0
   obtain ⟨s1, e1⟩ := open_slcs M.P_slp k1
   obtain ⟨n2, e2, g2, _⟩ := DataW.trod_string P_str' k2
   obtain ⟨n3, e3, g3, _⟩ := DataW.trod_string P_str' k3
   obtain ⟨n4, e4, _, _⟩ := DataW.trod_int P_int k4
   obtain ⟨s5, e5⟩ := open_slcs P_slint k5
   have e1' : [c1] = [.slice s1.p s1.len s1.cap] := e1
   have e5' : [c5] = [.slice s5.p s5.len s5.cap] := e5
   simp at e0 e1 e2 e3 e4 e5
   subst e0 e1 e2 e3 e4 e5
   obtain ⟨l1, v1, _⟩ := M.open_pairs (p := s1.p) (len := s1.len) (cap := s1.cap) k1
   obtain ⟨l5, v5, _, _⟩ := open_ints (p := s5.p) (len := s5.len) (cap := s5.cap) k5
   refine ⟨⟨n0, s1, n2, n3, n4, s5⟩, rfl, l1, l5, v1, v5, ?_⟩
   subst hx
   have hs : n2.data.toList.length = n2.size := by rw [Array.length_toList]; rfl
   have hg : x2.1 = _ := congrArg Prod.fst g2
   simp only [List.map_cons, List.map_nil, Rows.uptoBulk, Rows.uptoBulkAll, hg]
   omega
end
theorem arg_pairs {H : Type} {enc : TypeId × Value → H} {W : World} {base : Nat} {v : Value} {d : DataW H} {ps : List MemPlace} (hv : Value.okWide P W .any base t_sl_api_Pair v) (h : DataW.Trod enc P W 0 (fun _ => true) true t_sl_api_Pair v d ps) :
  ∃ (s : Sl) (l : List Pr), v = .slice s.p s.len s.cap ∧ View PairE W.heap s l ∧ l.length ≤ Rows.uptoBulk d := M.arg_pairs hv h
theorem arg_calls {H : Type} {enc : TypeId × Value → H} {W : World} {base : Nat} {v : Value} {d : DataW H} {ps : List MemPlace} (hv : Value.okWide P W .any base t_sl_wherrylaw09_Call v) (h : DataW.Trod enc P W 0 (fun _ => true) true t_sl_wherrylaw09_Call v d ps) :
  ∃ (s : Sl) (l : List CallC), v = .slice s.p s.len s.cap ∧ View CallE W.heap s l ∧ ∀ x ∈ l, ∃ lp ks, CallOk (Rows.uptoBulk d) W.heap x lp ks := by
 obtain ⟨p, len, cap, rfl⟩ := okWide_slice P_slcall hv
 obtain ⟨n, hn⟩ := h
 obtain ⟨l, ds, V, hl, hq, hb⟩ := open_sl (E := CallE) (Q := fun y d => ∃ lp ks, CallOk (Rows.uptoBulk d) W.heap y lp ks) P_slcall P_ccall (fun n cs x hx => open_call hx) hn
 refine ⟨⟨p, len, cap⟩, l, rfl, V, fun x hx => ?_⟩
 obtain ⟨d', hd, lp, ks, c⟩ := mem_bulk hl hq hx
 have h1 : Rows.uptoBulk d' ≤ Rows.uptoBulkAll ds := bulk_mem hd
 exact ⟨lp, ks, c.bs, c.ks, by have := c.key; dsimp only at hb; omega⟩
end Go.Lf.G

