/-
 What the rows list: the table that the numerals are read from, two errors; a world that holds what is listed; arguments opened.
-/
import Derived.Test.YteecdmkgblonnaaGreatDoorLfX1ToY2
import Derived.Test.YteecdmkgblonnaaGreatDoorLfZ16ToZ19
import Derived.Test.YteecdmkgblonnaaGreatDoorCards
import Derived.Test.YteecdmkgblonnaaGreatDoorTie
import Derived.Deep.DeepHandedRow
import Derived.Lib.LaidTab
import Derived.Stop.LaidErr
import Derived.Test.YteecdmkgblonnaaGreatDoorLfM3ToM9
import Derived.Test.YteecdmkgblonnaaGreatDoorRows
import Derived.WalkKit
import Derived.ProofKit
import Derived.OpenShut
import Derived.JoinedCond
import Derived.Deep.Slices
import Derived.Carry
set_option linter.unusedVariables false
set_option linter.unusedSimpArgs false
set_option maxRecDepth 100000
set_option linter.unusedVariables false
set_option linter.unusedSimpArgs false
namespace Go.Lf.G
open Go Go.ChangeShapes Go.WideShapes Go.ChangeAt Go.RowKit Go.Proofs.YteecdmkgblonnaaGreatDoor
def listed : List (String × DataW Unit) := Rows.lsmShapesRow.laid
theorem listed_eq : ∃ (x y a b : String × DataW Unit), listed = [x, y, (tabName, Lib.tabData .u64 Lib.pow10Tab), a, b] := ⟨_, _, _, _, rfl⟩
theorem g_tab : P.globalNamed tabName = some 2 := by kernel_rfl
theorem g_type : (P.globals[2]?).map (·.type) = some t_20_uint64 := by kernel_rfl
theorem P_tab : P.underlying t_20_uint64 = some (.array 20 t_uint64) := by kernel_rfl
theorem P_u64' : P.underlying t_uint64 = some (.int .u64) := by kernel_rfl
theorem c_u64 : P.cellsOf t_uint64 = 1 := by kernel_rfl
theorem c_tab : P.cellsOf t_20_uint64 = 20 := by kernel_rfl
theorem no_handles : listed.filter (fun x => x.2.handleName?.isSome) = [] := by kernel_rfl
theorem met_of {W : World} (h : laidMetH P listed W) : laidMet P listed W := by
 unfold laidMetH at h
 rw [no_handles] at h
 exact h
theorem tab_met {W : World} (h : laidMetH P listed W) : Lib.TabIs P W tabName .u64 Lib.pow10Tab := by
 have h1 := met_of h
 obtain ⟨x, y, a, b, e⟩ := listed_eq
 rw [e] at h1
 exact Lib.tabIs_of_head (rest := [a, b]) g_tab g_type P_tab P_u64' c_u64 c_tab (laidMet.tail (laidMet.tail h1))
theorem Tab_of' {W : World} (h : laidMetH P listed W) : Tab W.heap := fun A n => by
 have h1 := tab_met h
 unfold Lib.TabIs World.var? at h1 ⊢
 exact h1
/-! ### the two errors -/
def esName : String := String.ofList [Char.ofNat 42] ++ "errors.errorString"
def rngName : String := Rows.lsmShapesRow.named.getD 1 (String.ofList [])
def synName : String := Rows.lsmShapesRow.named.getD 0 (String.ofList [])
theorem rng_eq : ∃ (x y z w : String × DataW Unit) (text : List UInt8), listed = [x, y, z, (rngName, .iface esName (.ptr (.agg [.lit (.string text)]))), w] := ⟨_, _, _, _, _, rfl⟩
theorem syn_eq : ∃ (x y z w : String × DataW Unit) (text : List UInt8), listed = [x, y, z, w, (synName, .iface esName (.ptr (.agg [.lit (.string text)])))] := ⟨_, _, _, _, _, rfl⟩
theorem g_rng : P.globalNamed rngName = some 1 := by kernel_rfl
theorem g_syn : P.globalNamed synName = some 0 := by kernel_rfl
theorem gt_rng : (P.globals[1]?).map (·.type) = some t_error := by kernel_rfl
theorem gt_syn : (P.globals[0]?).map (·.type) = some t_error := by kernel_rfl
theorem P_err : ∃ ms, P.underlying t_error = some (.interface ms) := ⟨_, Proofs.Tryz.underlying153⟩
theorem row_es (u : TypeId) (h : P.typeName? 3 u = some esName) : u = t_p_errors_errorString :=
 typeName_ptr_named (nm := "errors.errorString") (by kernel_rfl) (by kernel_rfl) (by decide) u h
theorem P_pes : P.underlying t_p_errors_errorString = some (.pointer t_errors_errorString) := by kernel_rfl
theorem P_es : ∃ f : Field, P.underlying t_errors_errorString = some (.struct #[f]) ∧ f.type = t_string ∧ f.offset = 0 := ⟨_, Proofs.Tryz.underlying253, rfl, rfl⟩
theorem c_es : P.cellsOf t_errors_errorString = 1 := by kernel_rfl
theorem err_of {n : String} {text : List UInt8} {r : List (String × DataW Unit)} {W : World} {g : Nat} (h : laidMet P ((n, .iface esName (.ptr (.agg [.lit (.string text)]))) :: r) W) (hg : P.globalNamed n = some g) (ht : (P.globals[g]?).map (·.type) = some t_error) : ErrAt W.heap g := by
 obtain ⟨ms, hi⟩ := P_err
 obtain ⟨f, hf, hft, hfo⟩ := P_es
 obtain ⟨a0, s0, hv0, _, _, _⟩ := laid_sentinel h hg ht hi row_es P_pes hf hft hfo P_str' c_es P_cs
 have h0 : W.cell? ⟨g, 0, none⟩ = some (.iface t_p_errors_errorString (.pointer (some a0))) := by simpa using World.var?_cell hg hv0 0
 refine ⟨.iface t_p_errors_errorString (.pointer (some a0)), ?_, .inr ⟨_, _, rfl⟩⟩
 unfold hget
 unfold World.cell? at h0
 exact h0
theorem Tab_of {W : World} (h : laidMetH P listed W) : Evn W.heap := by
 refine ⟨Tab_of' h, ?_, ?_⟩
 ·have h1 := met_of h
  obtain ⟨x, y, z, w, t, e⟩ := syn_eq
  rw [e] at h1
  exact err_of (laidMet.tail (laidMet.tail (laidMet.tail (laidMet.tail h1)))) g_syn gt_syn
 ·have h1 := met_of h
  obtain ⟨x, y, z, w, t, e⟩ := rng_eq
  rw [e] at h1
  exact err_of (laidMet.tail (laidMet.tail (laidMet.tail h1))) g_rng gt_rng
/-- the integers of a listed table, as cells -/
def cellsOfData : DataW Unit → Array Value
 | .agg ds => (ds.map fun | .lit (.int k z) => Value.int k z | _ => .bool false).toArray
 | _ => #[]
def fill (d : DataW Unit) : Obj → Obj
 | .cells _ t frozen => .cells (cellsOfData d) t frozen
 | o => o
def point (b : Nat) : Obj → Obj
 | .cells _ t frozen => .cells #[.iface t_p_errors_errorString (.pointer (some ⟨b, 0, none⟩))] t frozen
 | o => o
abbrev rngText : ByteArray := ⟨#[118, 97, 108, 117, 101, 32, 111, 117, 116, 32, 111, 102, 32, 114, 97, 110, 103, 101]⟩
abbrev synText : ByteArray := ⟨#[105, 110, 118, 97, 108, 105, 100, 32, 115, 121, 110, 116, 97, 120]⟩
noncomputable def low : Nat := (World.holding P default ⟨#[], #[], []⟩).heap.size
/-- a world that holds what is listed -/
noncomputable def laidWorld (os : Os) : World :=
 let w0 := World.holding P os ⟨#[.cells #[.string rngText] t_errors_errorString, .cells #[.string synText] t_errors_errorString], #[], []⟩
 { w0 with heap := ((((w0.heap.modify 2 (fill Rows.laid_internal_strconv_uint64pow10)).modify 4 (fill Rows.laid_math_bits_deBruijn32tab)).modify 5 (fill Rows.laid_math_bits_deBruijn64tab)).modify 1 (point low)).modify 0 (point (low + 1)) }
theorem laid_met_at (os : Os) (args : Array Value) : laidMet P listed ((laidWorld os).forCall (fun _ _ => 0) ⟨#[], args, []⟩).memory :=
 laidMet_of_run' 8 (by kernel_rfl) (by kernel_rfl)
end Go.Lf.G

/-
 Rows: arguments opened, what is asked behind the call.
-/
set_option maxRecDepth 100000
namespace Go.Lf.G.M
open Go Go.ChangeShapes Go.WideShapes Go.ChangeAt Go.RowKit Go.Proofs.YteecdmkgblonnaaGreatDoor
theorem bulk_one {H : Type} (d : DataW H) : 1 ≤ Rows.uptoBulk d := by
 cases d with
 | lit l => cases l <;> simp [Rows.uptoBulk]
 | nil => simp [Rows.uptoBulk]
 | ptr d => simp [Rows.uptoBulk]
 | slice elems spare => simp [Rows.uptoBulk]
 | agg parts => simp [Rows.uptoBulk]
 | iface t d => simp [Rows.uptoBulk]
 | map entries => simp [Rows.uptoBulk]
 | held h => simp [Rows.uptoBulk]
theorem bulk_len {H : Type} (l : List (DataW H)) : l.length ≤ Rows.uptoBulkAll l := by
 induction l with
 | nil => simp [Rows.uptoBulkAll]
 | cons x r ih => have := bulk_one x; simp only [Rows.uptoBulkAll, List.length_cons]; omega
theorem stays_all {H : Type} {enc : TypeId × Value → H} {P : Program} (hl : laidOutB P = true) {W W' : World} {sp : Nat → Bool} : ∀ {ts : List TypeId} {vs : List Value} {ds : List (DataW H)} {ps : List MemPlace},
  (ts.all fun t => P.readableRec t && decide (t < P.types.size)) = true → DataW.TrodAll enc P W 0 (fun _ => true) true ts vs ds ps → (∀ p ∈ ps, W.sameAt W' p) → (∀ p ∈ ps, sp p.block = true) → DataW.TrodAll enc P W' 0 sp true ts vs ds ps
 | [], [], [], _, _, h, _, _ => h
 | t :: ts, v :: vs, d :: ds, _, hr, ⟨p, q, h1, h2, e⟩, hs, hsp => by
  simp only [List.all_cons, Bool.and_eq_true, decide_eq_true_eq] at hr
  subst e
  exact ⟨p, q, WideElems.Trod_stays hl hr.1.1 hr.1.2 h1 (fun x hx => hs x (List.mem_append_left _ hx)) (fun x hx => hsp x (List.mem_append_left _ hx)),
   stays_all hl (by simpa using hr.2) h2 (fun x hx => hs x (List.mem_append_right _ hx)) (fun x hx => hsp x (List.mem_append_right _ hx)), rfl⟩
/-- the world of a call, in parts -/
def ambOf (W : World) : Amb := ⟨W.tape, W.os, W.output⟩
theorem row_post {H : Type} {enc : TypeId × Value → H} {P : Program} {f : Func} {s : ChangeSpec} {W : World} {args : Array Value} {ds gs : List (DataW H)} {before : List MemPlace} {tb : TypeId} {h' : Heap} {n' : Nat}
  (hW : DataW.Whole enc P f.params.toList s.vars false W args.toList ds gs before) (hvars : s.vars = []) (hres : (s.fn H (ds ++ gs)).results = [.lit (.bool true)]) (hargs : (s.fn H (ds ++ gs)).args = ds) (hvs : (s.fn H (ds ++ gs)).vars = [])
  (hl : laidOutB P = true) (hp : (f.params.toList.all fun t => P.readableRec t && decide (t < P.types.size)) = true) (hr : f.resultTypes = #[tb]) (hb : P.underlying tb = some .bool) (x : Ext W.heap h') :
  s.post enc P f false true false false W args (.bool true) ((ambOf W).at h' n') := by
 have hlt := fun p (hp : p ∈ before) => hW.lt p hp
 have hsame : ∀ p ∈ before, W.sameAt ((ambOf W).at h' n') p := fun p hp => by
  have hb2 : h'[p.block]? = W.heap[p.block]? := x.get _ (hlt p hp) (fun h => h)
  cases p with
  | cell b off =>
   show hget h' ⟨b, off, none⟩ = hget W.heap ⟨b, off, none⟩
   exact hget_blk hb2
  | map b => exact hb2
 obtain ⟨p, q, hA, hV, rfl, hz, hn⟩ := id hW
 rw [hvars] at hV
 have hgs : gs = [] ∧ q = [] := by
  cases gs with
  | nil => exact ⟨rfl, hV⟩
  | cons _ _ => exact hV.elim
 obtain ⟨rfl, rfl⟩ := hgs
 refine ⟨ds, [], p ++ [], [], p, [], hW, ?_, ?_, ?_, ?_, fun h => by cases h⟩
 ·rw [hres, hr]
  exact ⟨[], [], ⟨1, by simp [DataW.trod, Value.cells, hb]⟩, rfl, rfl⟩
 ·rw [hargs]
  exact stays_all hl hp hA (fun y hy => hsame y (List.mem_append_left _ hy)) (fun y hy => by simpa using hlt y (List.mem_append_left _ hy))
 ·rw [hvars, hvs]; rfl
 ·refine ⟨rfl, rfl, fun i hi => ?_⟩
  have e : ((ambOf W).at h' n').heap[i]? = W.heap[i]? := x.get i hi (fun h => h)
  rw [e]
  cases h1 : W.heap[i]? with
  | none => trivial
  | some o =>
   cases o with
   | cells c t fr => exact ⟨rfl, rfl, rfl, fun _ _ => rfl⟩
   | map es clock => exact .inr ⟨rfl, rfl⟩
   | _ => rfl
section
variable {H : Type} {enc : TypeId × Value → H} {w : World} {base : Nat} {spare : Nat → Bool} {held : Bool}
instance : Inhabited Pr := ⟨⟨⟨#[]⟩, ⟨#[]⟩, false⟩⟩
instance : Inhabited Sl := ⟨⟨none, 0, 0⟩⟩
theorem P_int : P.underlying t_int = some (.int .i64) := by kernel_rfl
theorem P_slp : P.underlying t_sl_api_Pair = some (.slice t_api_Pair) := by kernel_rfl
theorem P_cp : P.cellsOf t_api_Pair = 3 := by kernel_rfl
theorem P_cs : P.cellsOf t_string = 1 := by kernel_rfl
theorem P_cb : P.cellsOf t_bool = 1 := by kernel_rfl
theorem P_fields (i : Nat) (f : Field) (h : (P.fieldsOf t_api_Pair).toList[i]? = some f) : (P.fieldsOf t_api_Pair)[i]? = some f := by simpa using h
theorem open_pair {n : Nat} {cs : List Value} {x : DataW H × List MemPlace} (h : DataW.trod enc P w base spare held n t_api_Pair cs = some x) : ∃ y : Pr, cs = PairE.enc y := by
 obtain ⟨xs, m, _, _, hl, hxl, hf⟩ := DataW.trod_struct P_pair h
 rw [P_cp] at hl
 have hsz : (P.fieldsOf t_api_Pair).size = 3 := by rw [← Array.length_toList, P_pair4]; rfl
 rw [hsz] at hxl
 have f0 := hf 0 _ (P_fields 0 _ (by rw [P_pair4]; rfl))
 have f1 := hf 1 _ (P_fields 1 _ (by rw [P_pair4]; rfl))
 have f2 := hf 2 _ (P_fields 2 _ (by rw [P_pair4]; rfl))
 simp only [P_cs, P_cb] at f0 f1 f2
 rw [List.getElem?_eq_getElem (by omega)] at f0 f1 f2
 obtain ⟨s0, e0, _, _⟩ := DataW.trod_string P_str f0
 obtain ⟨s1, e1, _, _⟩ := DataW.trod_string P_str f1
 obtain ⟨b2, e2, _⟩ := DataW.trod_bool P_bool f2
 match cs, hl with
 | [c0, c1, c2], _ =>
  simp at e0 e1 e2
  exact ⟨⟨s0, s1, b2⟩, by rw [e0, e1, e2]; rfl⟩
theorem open_pairs {n : Nat} {p : Option Addr} {len cap : Nat} {x : DataW H × List MemPlace} (h : DataW.trod enc P w base spare held n t_sl_api_Pair [.slice p len cap] = some x) :
  ∃ l : List Pr, View PairE w.heap ⟨p, len, cap⟩ l ∧ l.length ≤ Rows.uptoBulk x.1 := by
 rcases Deep.open_slice P_slp h with ⟨h0, rfl⟩ | ⟨a, len', cap', m, n', D, Pl, h0, _, hl, _, hm, rfl, hx⟩
 ·simp at h0
  obtain ⟨rfl, rfl, rfl⟩ := h0
  exact ⟨[], View.nil, by simp⟩
 ·simp at h0
  obtain ⟨rfl, rfl, rfl⟩ := h0
  have hlm : len ≤ m := by rw [hm]; split <;> omega
  rw [P_cp] at hx
  have : ∀ i, i < len → ∃ y : Pr, Cells w.heap (a.add (i * 3)) (PairE.enc y) := fun i hi => by
   obtain ⟨cs', h1, h2⟩ := hx i (by omega)
   obtain ⟨y, rfl⟩ := open_pair h2
   obtain ⟨_, hlen, hc⟩ := World.cells?_some h1
   refine ⟨y, fun j v hj => ?_⟩
   have hj3 : j < 3 := (List.getElem?_eq_some_iff.1 hj).1
   have := hc j hj3
   rw [hj] at this
   exact this
  obtain ⟨f, hf⟩ := Deep.choose_lt this
  refine ⟨(List.range len).map f, ⟨by simp, hl, fun i y hi => ?_⟩, ?_⟩
  ·simp only [List.getElem?_map] at hi
   by_cases hil : i < len
   ·simp [hil] at hi
    subst hi
    exact ⟨a, rfl, hf i hil⟩
   ·simp [Nat.not_lt.1 hil] at hi
  ·have := bulk_len ((List.range len).map D)
   simp only [Rows.uptoBulk]
   simp at this ⊢
   omega
end
theorem laid : laidOutB P = true := by kernel_rfl
theorem arg_pairs {H : Type} {enc : TypeId × Value → H} {W : World} {base : Nat} {v : Value} {d : DataW H} {ps : List MemPlace} (hv : Value.okWide P W .any base t_sl_api_Pair v) (h : DataW.Trod enc P W 0 (fun _ => true) true t_sl_api_Pair v d ps) :
  ∃ (s : Sl) (l : List Pr), v = .slice s.p s.len s.cap ∧ View PairE W.heap s l ∧ l.length ≤ Rows.uptoBulk d := by
 obtain ⟨p, len, cap, rfl⟩ := okWide_slice P_slp hv
 obtain ⟨n, hn⟩ := h
 obtain ⟨ls, h1, h2⟩ := open_pairs hn
 exact ⟨⟨p, len, cap⟩, ls, rfl, h1, h2⟩
end Go.Lf.G.M

/-
 Calls, maps beside a store (chapter 9): what the laws share.
-/
set_option maxRecDepth 100000
set_option linter.unusedVariables false
set_option linter.unusedSimpArgs false
namespace Go.Lf.G
open Go
open M (Sorted findK putL putsL refAllL findLs GoodL wrongP OkL liveL atK thereK)
structure CallC where
 kind : Int
 bs : Sl
 key : ByteArray
 til : ByteArray
 most : Int
 ks : Sl
def CallE : Enc CallC where
 enc x := [.int .i64 x.kind, .slice x.bs.p x.bs.len x.bs.cap, .string x.key, .string x.til, .int .i64 x.most, .slice x.ks.p x.ks.len x.ks.cap]
 w := 6
 len _ := rfl
 pos := by omega
 one x v hv := by simp at hv; rcases hv with rfl | rfl | rfl | rfl | rfl | rfl <;> rfl
theorem call_at {h : Heap} {a : Addr} {x : CallC} (c : Cells h a (CallE.enc x)) : hget h a = some (.int .i64 x.kind) ∧ hget h (a.add 1) = some (.slice x.bs.p x.bs.len x.bs.cap) ∧ hget h (a.add 2) = some (.string x.key) ∧ hget h (a.add 3) = some (.string x.til) ∧ hget h (a.add 4) = some (.int .i64 x.most) ∧ hget h (a.add 5) = some (.slice x.ks.p x.ks.len x.ks.cap) := by
 have h0 := c 0 _ rfl
 rw [add_zero] at h0
 exact ⟨h0, c 1 _ rfl, c 2 _ rfl, c 3 _ rfl, c 4 _ rfl, c 5 _ rfl⟩
/-- what a call holds -/
structure CallOk (N : Nat) (h : Heap) (x : CallC) (l : List Pr) (ks : List Int) : Prop where
 bs : View PairE h x.bs l
 ks : View IntE h x.ks ks
 key : x.key.size ≤ N
theorem view_lt {α : Type} {E : Enc α} {h : Heap} {s : Sl} {l : List α} (v : View E h s l) (hl : l ≠ []) {b : Nat} (hb : s.blk = some b) : b < h.size := by
 cases l with
 | nil => exact absurd rfl hl
 | cons x l =>
  obtain ⟨a, ha, hc⟩ := v.cells 0 x rfl
  have hp := E.pos
  have hle := E.len x
  obtain ⟨u, hu⟩ : ∃ u, (E.enc x)[0]? = some u := ⟨_, List.getElem?_eq_getElem (by omega)⟩
  have := hget_lt (hc 0 u hu)
  rw [add_block, add_block] at this
  have e : a.block = b := by simpa [Sl.blk, ha] using hb
  omega
theorem map_keys {st : Db} : ∀ x ∈ mapS st, x.key.size ≤ 1099511627776 := fun x hx => by
 have h1 : PrOk x := ok_of ((store_good : GoodL (mapS st)) x hx)
 have h2 := h1.keyMost
 omega
section
variable {A : Amb} {B : Bud} {g h : Heap} {q : Hp} {k : Nat → Nat} {st : Db} {m : Bx} {D : Disk} {age c : Nat} {R : Value → Heap → Prop}
theorem StoreAt.put {age' c' : Nat} (S : StoreAt B g h q k st m D age c) (h1 : age ≤ age') (h2 : c ≤ c') (h3 : c' ≤ B.C) : StoreAt B g h q k st m D age' c' := (S.age h1).more h2 h3
theorem StoreAt.args (S : StoreAt B g h q k st m D age c) {s : Sl} {l : List Pr} (v : View PairE g s l) : l ≠ [] → ∀ b, s.blk = some b → b < h.size ∧ k b = 0 := fun hl b hb => by
 have h1 := view_lt v hl hb
 have := S.mem.ext.size
 exact ⟨by omega, S.base h1⟩
/-- a map beside a store -/
structure MapAt (h : Heap) (k : Nat → Nat) (bm : Nat) (sm : Sl) (mp : List Pr) : Prop where
 cell : h[bm]? = some (.cells #[.slice sm.p sm.len sm.cap] t_wherryref09_Map (0, 0))
 kz : k bm = 0
 view : View PairE h sm mp
 blk : ∀ c, sm.blk = some c → k c = 0 ∧ c < h.size ∧ c ≠ bm
theorem MapAt.lt {bm : Nat} {sm : Sl} {mp : List Pr} (M : MapAt h k bm sm mp) : bm < h.size := (Array.getElem?_eq_some_iff.1 M.cell).1
/-- a step of the store leaves the map where it is -/
theorem MapAt.step {h' : Heap} {k' : Nat → Nat} {bm : Nat} {sm : Sl} {mp : List Pr} {S : Nat → Prop} (M : MapAt h k bm sm mp) (md : Mod S h h') (hS : ∀ c, S c → k c ≠ 0 ∨ h.size ≤ c) (hk : ∀ c, k' c ≠ 0 → k c ≠ 0 ∨ h.size ≤ c) : MapAt h' k' bm sm mp := by
 have hl := M.lt
 have sz := md.size
 have nk : ∀ c, k c = 0 → c < h.size → k' c = 0 := fun c h1 h2 => Decidable.byContradiction fun h3 => by
  rcases hk c h3 with h4 | h4
  ·exact h4 h1
  ·omega
 have ns : ∀ c, k c = 0 → c < h.size → ¬ S c := fun c h1 h2 h3 => by
  rcases hS c h3 with h4 | h4
  ·exact h4 h1
  ·omega
 exact ⟨md.blk M.cell (ns _ M.kz hl), nk _ M.kz hl, M.view.mod md fun c hc => ns _ (M.blk c hc).1 (M.blk c hc).2.1, fun c hc => ⟨nk _ (M.blk c hc).1 (M.blk c hc).2.1, by have := (M.blk c hc).2.1; omega, (M.blk c hc).2.2⟩⟩
theorem MapAt.ext {h' : Heap} {bm : Nat} {sm : Sl} {mp : List Pr} (M : MapAt h k bm sm mp) (x : Ext h h') : MapAt h' k bm sm mp := M.step x (fun _ h => h.elim) (fun _ h => .inl h)
end
end Go.Lf.G

/-
 Arguments of the store's statements, opened.
-/
set_option maxRecDepth 100000
set_option linter.unusedVariables false
set_option linter.unusedSimpArgs false
namespace Go.Lf.G
open Go Go.ChangeShapes Go.WideShapes Go.ChangeAt Go.RowKit Go.Proofs.YteecdmkgblonnaaGreatDoor
theorem bulk_mem {H : Type} {d : DataW H} : ∀ {ds : List (DataW H)}, d ∈ ds → Rows.uptoBulk d ≤ Rows.uptoBulkAll ds
 | [], h => by cases h
 | x :: l, h => by
  unfold Rows.uptoBulkAll
  rcases List.mem_cons.1 h with rfl | h
  ·omega
  ·have := bulk_mem h; omega
theorem choose_list {α β γ : Type} {Q : α → β → γ → Prop} : ∀ {l : List α} {ds : List β}, l.length = ds.length → (∀ (i : Nat) y d, l[i]? = some y → ds[i]? = some d → ∃ r, Q y d r) → ∃ rs : List γ, rs.length = l.length ∧ ∀ (i : Nat) y d r, l[i]? = some y → ds[i]? = some d → rs[i]? = some r → Q y d r
 | [], _, _, _ => ⟨[], rfl, fun i y d r h => by simp at h⟩
 | x :: l, [], h, _ => by simp at h
 | x :: l, d :: ds, h, hq => by
  obtain ⟨r, hr⟩ := hq 0 x d rfl rfl
  obtain ⟨rs, h1, h2⟩ := choose_list (l := l) (ds := ds) (by simpa using h) fun i y d' h3 h4 => hq (i + 1) y d' (by simpa using h3) (by simpa using h4)
  refine ⟨r :: rs, by simp [h1], fun i y d' r' h3 h4 h5 => ?_⟩
  cases i with
  | zero =>
   simp at h3 h4 h5
   subst h3 h4 h5
   exact hr
  | succ i => exact h2 i y d' r' (by simpa using h3) (by simpa using h4) (by simpa using h5)
theorem P_csli : P.cellsOf t_sl_int = 1 := by kernel_rfl
theorem P_cslp : P.cellsOf t_sl_api_Pair = 1 := by kernel_rfl
section
variable {H : Type} {enc : TypeId × Value → H} {w : World} {base : Nat} {spare : Nat → Bool} {held : Bool}
theorem open_slcs {tS t : TypeId} {n : Nat} {cs : List Value} {x : DataW H × List MemPlace} (hT : P.underlying tS = some (.slice t)) (h : DataW.trod enc P w base spare held n tS cs = some x) : ∃ s : Sl, cs = [.slice s.p s.len s.cap] := by
 rcases Deep.open_slice hT h with ⟨rfl, _⟩ | ⟨a, len', cap', m, n', D, Pl, rfl, _⟩
 ·exact ⟨⟨none, 0, 0⟩, rfl⟩
 ·exact ⟨⟨some a, len', cap'⟩, rfl⟩
end
/-! ### structs -/
def fieldsOf (P : Program) (t : TypeId) : Option (List (TypeId × Nat)) := match P.underlying t with
 | some (.struct fs) => some (fs.toList.map fun f => (f.type, f.offset))
 | _ => none
section
variable {H : Type} {enc : TypeId × Value → H} {w : World} {base : Nat} {spare : Nat → Bool} {held : Bool}
theorem open_fields {t : TypeId} {fts : List (TypeId × Nat)} {n : Nat} {cs : List Value} {x : DataW H × List MemPlace} (ht : fieldsOf P t = some fts) (h : DataW.trod enc P w base spare held n t cs = some x) :
  ∃ (xs : List (DataW H × List MemPlace)) (m : Nat), x = (.agg (xs.map (·.1)), xs.flatMap (·.2)) ∧ cs.length = P.cellsOf t ∧ xs.length = fts.length ∧
   ∀ (i : Nat) (f : TypeId × Nat), fts[i]? = some f → DataW.trod enc P w base spare held m f.1 ((cs.drop f.2).take (P.cellsOf f.1)) = xs[i]? := by
 unfold fieldsOf at ht
 split at ht
 ·rename_i fs hfs
  simp at ht
  subst ht
  obtain ⟨xs, m, _, rfl, h1, h2, h3⟩ := DataW.trod_struct hfs h
  refine ⟨xs, m, rfl, h1, by simpa using h2, fun i f hf => ?_⟩
  simp only [List.getElem?_map, Option.map_eq_some_iff, Array.getElem?_toList] at hf
  obtain ⟨g, hg, rfl⟩ := hf
  exact h3 i g hg
 ·cases ht
end
theorem P_call : fieldsOf P t_wherrylaw09_Call = some [(t_int, 0), (t_sl_api_Pair, 1), (t_string, 2), (t_string, 3), (t_int, 4), (t_sl_int, 5)] := by kernel_rfl
theorem P_ccall : P.cellsOf t_wherrylaw09_Call = CallE.w := by kernel_rfl
theorem P_slcall : P.underlying t_sl_wherrylaw09_Call = some (.slice t_wherrylaw09_Call) := by kernel_rfl
section
variable {H : Type} {enc : TypeId × Value → H} {w : World} {base : Nat} {spare : Nat → Bool} {held : Bool}
theorem open_call {n : Nat} {cs : List Value} {x : DataW H × List MemPlace} (h : DataW.trod enc P w base spare held n t_wherrylaw09_Call cs = some x) :
  ∃ y : CallC, cs = CallE.enc y ∧ ∃ l ks, CallOk (Rows.uptoBulk x.1) w.heap y l ks := by
 obtain ⟨xs, m, hx, h1, h2, h3⟩ := open_fields P_call h
 rw [P_ccall] at h1
 match cs, h1 with
 | [c0, c1, c2, c3, c4, c5], _ =>
  match xs, h2 with
  | [x0, x1, x2, x3, x4, x5], _ =>
   have k0 := h3 0 _ rfl
   have k1 := h3 1 _ rfl
   have k2 := h3 2 _ rfl
   have k3 := h3 3 _ rfl
   have k4 := h3 4 _ rfl
   have k5 := h3 5 _ rfl
   simp only [P_cslp, P_ci, P_csli, P_cs] at k0 k1 k2 k3 k4 k5
   obtain ⟨n0, e0, _, _⟩ := DataW.trod_int P_int k0
   obtain ⟨s1, e1⟩ := open_slcs M.P_slp k1
   obtain ⟨n2, e2, g2, _⟩ := DataW.trod_string P_str' k2
   obtain ⟨n3, e3, g3, _⟩ := DataW.trod_string P_str' k3
   obtain ⟨n4, e4, _, _⟩ := DataW.trod_int P_int k4
   obtain ⟨s5, e5⟩ := open_slcs P_slint k5
   have e1' : [c1] = [.slice s1.p s1.len s1.cap] := e1
   have e5' : [c5] = [.slice s5.p s5.len s5.cap] := e5
   simp at e0 e1 e2 e3 e4 e5
   subst e0 e1 e2 e3 e4 e5
   obtain ⟨l1, v1, _⟩ := M.open_pairs (p := s1.p) (len := s1.len) (cap := s1.cap) k1
   obtain ⟨l5, v5, _, _⟩ := open_ints (p := s5.p) (len := s5.len) (cap := s5.cap) k5
   refine ⟨⟨n0, s1, n2, n3, n4, s5⟩, rfl, l1, l5, v1, v5, ?_⟩
   subst hx
   have hs : n2.data.toList.length = n2.size := by rw [Array.length_toList]; rfl
   have hg : x2.1 = _ := congrArg Prod.fst g2
   simp only [List.map_cons, List.map_nil, Rows.uptoBulk, Rows.uptoBulkAll, hg]
   omega
end
theorem arg_pairs {H : Type} {enc : TypeId × Value → H} {W : World} {base : Nat} {v : Value} {d : DataW H} {ps : List MemPlace} (hv : Value.okWide P W .any base t_sl_api_Pair v) (h : DataW.Trod enc P W 0 (fun _ => true) true t_sl_api_Pair v d ps) :
  ∃ (s : Sl) (l : List Pr), v = .slice s.p s.len s.cap ∧ View PairE W.heap s l ∧ l.length ≤ Rows.uptoBulk d := M.arg_pairs hv h
theorem arg_calls {H : Type} {enc : TypeId × Value → H} {W : World} {base : Nat} {v : Value} {d : DataW H} {ps : List MemPlace} (hv : Value.okWide P W .any base t_sl_wherrylaw09_Call v) (h : DataW.Trod enc P W 0 (fun _ => true) true t_sl_wherrylaw09_Call v d ps) :
  ∃ (s : Sl) (l : List CallC), v = .slice s.p s.len s.cap ∧ View CallE W.heap s l ∧ ∀ x ∈ l, ∃ lp ks, CallOk (Rows.uptoBulk d) W.heap x lp ks := by
 obtain ⟨p, len, cap, rfl⟩ := okWide_slice P_slcall hv
 obtain ⟨n, hn⟩ := h
 obtain ⟨l, ds, V, hl, hq, hb⟩ := open_sl (E := CallE) (Q := fun y d => ∃ lp ks, CallOk (Rows.uptoBulk d) W.heap y lp ks) P_slcall P_ccall (fun n cs x hx => open_call hx) hn
 refine ⟨⟨p, len, cap⟩, l, rfl, V, fun x hx => ?_⟩
 obtain ⟨d', hd, lp, ks, c⟩ := mem_bulk hl hq hx
 have h1 : Rows.uptoBulk d' ≤ Rows.uptoBulkAll ds := bulk_mem hd
 exact ⟨lp, ks, c.bs, c.ks, by have := c.key; dsimp only at hb; omega⟩
end Go.Lf.G

