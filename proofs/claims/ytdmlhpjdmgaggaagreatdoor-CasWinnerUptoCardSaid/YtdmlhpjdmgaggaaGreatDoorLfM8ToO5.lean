/-
 Rows: arguments opened, what is asked behind the call.
-/
import Derived.Test.YtdmlhpjdmgaggaaGreatDoorLfM3ToM9
import Derived.Test.YtdmlhpjdmgaggaaGreatDoorRows
import Derived.WalkKit
import Derived.ProofKit
import Derived.OpenShut
import Derived.JoinedCond
import Derived.Deep.Slices
import Derived.Carry
import Derived.Test.YtdmlhpjdmgaggaaGreatDoorLfZ16ToO2
import Derived.Test.YtdmlhpjdmgaggaaGreatDoorLfU1ToU2
import Derived.Test.YtdmlhpjdmgaggaaGreatDoorLfZ7ToZ9
import Derived.Test.YtdmlhpjdmgaggaaGreatDoorLfX2ToM2
set_option linter.unusedVariables false
set_option linter.unusedSimpArgs false
set_option maxRecDepth 100000
namespace Go.Lf.G.M
open Go Go.ChangeShapes Go.WideShapes Go.ChangeAt Go.RowKit Go.Proofs.YtdmlhpjdmgaggaaGreatDoor
theorem YO {H : Type} (d : DataW H) : 1 ≤ Rows.uptoBulk d := by
 cases d with
 | lit l => cases l <;> simp [Rows.uptoBulk]
 | nil => simp [Rows.uptoBulk]
 | ptr d => simp [Rows.uptoBulk]
 | slice elems spare => simp [Rows.uptoBulk]
 | agg parts => simp [Rows.uptoBulk]
 | iface t d => simp [Rows.uptoBulk]
 | map entries => simp [Rows.uptoBulk]
 | held h => simp [Rows.uptoBulk]
theorem XY {H : Type} (l : List (DataW H)) : l.length ≤ Rows.uptoBulkAll l := by
 induction l with
 | nil => simp [Rows.uptoBulkAll]
 | cons x r ih => have := YO x; simp only [Rows.uptoBulkAll, List.length_cons]; omega
theorem Ml {H : Type} {enc : TypeId × Value → H} {P : Program} (hl : laidOutB P = true) {W W' : World} {sp : Nat → Bool} : ∀ {ts : List TypeId} {vs : List Value} {ds : List (DataW H)} {ps : List MemPlace},
  (ts.all fun t => P.readableRec t && decide (t < P.types.size)) = true → DataW.TrodAll enc P W 0 (fun _ => true) true ts vs ds ps → (∀ p ∈ ps, W.sameAt W' p) → (∀ p ∈ ps, sp p.block = true) → DataW.TrodAll enc P W' 0 sp true ts vs ds ps
 | [], [], [], _, _, h, _, _ => h
 | t :: ts, v :: vs, d :: ds, _, hr, ⟨p, q, h1, h2, e⟩, hs, hsp => by
  simp only [List.all_cons, Bool.and_eq_true, decide_eq_true_eq] at hr
  subst e
  exact ⟨p, q, WideElems.Trod_stays hl hr.1.1 hr.1.2 h1 (fun x hx => hs x (List.mem_append_left _ hx)) (fun x hx => hsp x (List.mem_append_left _ hx)),
   Ml hl (by simpa using hr.2) h2 (fun x hx => hs x (List.mem_append_right _ hx)) (fun x hx => hsp x (List.mem_append_right _ hx)), rfl⟩
def O8 (W : World) : Amb := ⟨W.tape, W.os, W.output⟩
theorem Ph {H : Type} {enc : TypeId × Value → H} {P : Program} {f : Func} {s : ChangeSpec} {W : World} {args : Array Value} {ds gs : List (DataW H)} {before : List MemPlace} {tb : TypeId} {h' : Heap} {n' : Nat}
  (hW : DataW.Whole enc P f.params.toList s.vars false W args.toList ds gs before) (hvars : s.vars = []) (hres : (s.fn H (ds ++ gs)).results = [.lit (.bool true)]) (hargs : (s.fn H (ds ++ gs)).args = ds) (hvs : (s.fn H (ds ++ gs)).vars = [])
  (hl : laidOutB P = true) (hp : (f.params.toList.all fun t => P.readableRec t && decide (t < P.types.size)) = true) (hr : f.resultTypes = #[tb]) (hb : P.underlying tb = some .bool) (x : Ext W.heap h') :
  s.post enc P f false true false false W args (.bool true) ((O8 W).at h' n') := by
 have hlt := fun p (hp : p ∈ before) => hW.lt p hp
 have hsame : ∀ p ∈ before, W.sameAt ((O8 W).at h' n') p := fun p hp => by
  have hb2 : h'[p.block]? = W.heap[p.block]? := x.get _ (hlt p hp) (fun h => h)
  cases p with
  | cell b off =>
   show hget h' ⟨b, off, none⟩ = hget W.heap ⟨b, off, none⟩
   exact KM hb2
  | map b => exact hb2
 obtain ⟨p, q, hA, hV, rfl, hz, hn⟩ := id hW
 rw [hvars] at hV
 have hgs : gs = [] ∧ q = [] := by
  cases gs with
  | nil => exact ⟨rfl, hV⟩
  | cons _ _ => exact hV.elim
 obtain ⟨rfl, rfl⟩ := hgs
 refine ⟨ds, [], p ++ [], [], p, [], hW, ?_, ?_, ?_, ?_, fun h => by cases h⟩
 ·rw [hres, hr]
  exact ⟨[], [], ⟨1, by simp [DataW.trod, Value.cells, hb]⟩, rfl, rfl⟩
 ·rw [hargs]
  exact Ml hl hp hA (fun y hy => hsame y (List.mem_append_left _ hy)) (fun y hy => by simpa using hlt y (List.mem_append_left _ hy))
 ·rw [hvars, hvs]; rfl
 ·refine ⟨rfl, rfl, fun i hi => ?_⟩
  have e : ((O8 W).at h' n').heap[i]? = W.heap[i]? := x.get i hi (fun h => h)
  rw [e]
  cases h1 : W.heap[i]? with
  | none => trivial
  | some o =>
   cases o with
   | cells c t fr => exact ⟨rfl, rfl, rfl, fun _ _ => rfl⟩
   | map es clock => exact .inr ⟨rfl, rfl⟩
   | _ => rfl
section
variable {H : Type} {enc : TypeId × Value → H} {w : World} {base : Nat} {spare : Nat → Bool} {held : Bool}
instance : Inhabited Pr := ⟨⟨⟨#[]⟩, ⟨#[]⟩, false⟩⟩
instance : Inhabited Sl := ⟨⟨none, 0, 0⟩⟩
theorem AAY : P.underlying BO = some (.int .i64) := by kernel_rfl
theorem XE : P.underlying AP = some (.slice AO) := by kernel_rfl
theorem ALh : P.cellsOf AO = 3 := by kernel_rfl
theorem AGU : P.cellsOf Ad = 1 := by kernel_rfl
theorem AJQ : P.cellsOf Jj = 1 := by kernel_rfl
theorem Xq (i : Nat) (f : Field) (h : (P.fieldsOf AO).toList[i]? = some f) : (P.fieldsOf AO)[i]? = some f := by simpa using h
theorem open_pair {n : Nat} {cs : List Value} {x : DataW H × List MemPlace} (h : DataW.trod enc P w base spare held n AO cs = some x) : ∃ y : Pr, cs = Af.enc y := by
 obtain ⟨xs, m, _, _, hl, hxl, hf⟩ := DataW.trod_struct AH6 h
 rw [ALh] at hl
 have hsz : (P.fieldsOf AO).size = 3 := by rw [← Array.length_toList, Sr]; rfl
 rw [hsz] at hxl
 have f0 := hf 0 _ (Xq 0 _ (by rw [Sr]; rfl))
 have f1 := hf 1 _ (Xq 1 _ (by rw [Sr]; rfl))
 have f2 := hf 2 _ (Xq 2 _ (by rw [Sr]; rfl))
 simp only [AGU, AJQ] at f0 f1 f2
 rw [List.getElem?_eq_getElem (by omega)] at f0 f1 f2
 obtain ⟨s0, e0, _, _⟩ := DataW.trod_string Il f0
 obtain ⟨s1, e1, _, _⟩ := DataW.trod_string Il f1
 obtain ⟨b2, e2, _⟩ := DataW.trod_bool Ms f2
 match cs, hl with
 | [c0, c1, c2], _ =>
  simp at e0 e1 e2
  exact ⟨⟨s0, s1, b2⟩, by rw [e0, e1, e2]; rfl⟩
theorem AED {n : Nat} {p : Option Addr} {len cap : Nat} {x : DataW H × List MemPlace} (h : DataW.trod enc P w base spare held n AP [.slice p len cap] = some x) :
  ∃ l : List Pr, View Af w.heap ⟨p, len, cap⟩ l ∧ l.length ≤ Rows.uptoBulk x.1 := by
 rcases Deep.open_slice XE h with ⟨h0, rfl⟩ | ⟨a, len', cap', m, n', D, Pl, h0, _, hl, _, hm, rfl, hx⟩
 ·simp at h0
  obtain ⟨rfl, rfl, rfl⟩ := h0
  exact ⟨[], View.nil, by simp⟩
 ·simp at h0
  obtain ⟨rfl, rfl, rfl⟩ := h0
  have hlm : len ≤ m := by rw [hm]; split <;> omega
  rw [ALh] at hx
  have : ∀ i, i < len → ∃ y : Pr, Cells w.heap (a.add (i * 3)) (Af.enc y) := fun i hi => by
   obtain ⟨cs', h1, h2⟩ := hx i (by omega)
   obtain ⟨y, rfl⟩ := open_pair h2
   obtain ⟨_, hlen, hc⟩ := World.cells?_some h1
   refine ⟨y, fun j v hj => ?_⟩
   have hj3 : j < 3 := (List.getElem?_eq_some_iff.1 hj).1
   have := hc j hj3
   rw [hj] at this
   exact this
  obtain ⟨f, hf⟩ := Deep.choose_lt this
  refine ⟨(List.range len).map f, ⟨by simp, hl, fun i y hi => ?_⟩, ?_⟩
  ·simp only [List.getElem?_map] at hi
   by_cases hil : i < len
   ·simp [hil] at hi
    subst hi
    exact ⟨a, rfl, hf i hil⟩
   ·simp [Nat.not_lt.1 hil] at hi
  ·have := XY ((List.range len).map D)
   simp only [Rows.uptoBulk]
   simp at this ⊢
   omega
end
theorem laid : laidOutB P = true := by kernel_rfl
theorem P5 {H : Type} {enc : TypeId × Value → H} {W : World} {base : Nat} {v : Value} {d : DataW H} {ps : List MemPlace} (hv : Value.okWide P W .any base AP v) (h : DataW.Trod enc P W 0 (fun _ => true) true AP v d ps) :
  ∃ (s : Sl) (l : List Pr), v = .slice s.p s.len s.cap ∧ View Af W.heap s l ∧ l.length ≤ Rows.uptoBulk d := by
 obtain ⟨p, len, cap, rfl⟩ := okWide_slice XE hv
 obtain ⟨n, hn⟩ := h
 obtain ⟨ls, h1, h2⟩ := AED hn
 exact ⟨⟨p, len, cap⟩, ls, rfl, h1, h2⟩
end Go.Lf.G.M

/-
 Calls, maps beside a store (chapter 9): what the laws share.
-/
set_option maxRecDepth 100000
set_option linter.unusedVariables false
set_option linter.unusedSimpArgs false
namespace Go.Lf.G
open Go
open M (Sorted Ah Df BL Al BF CZ Au OkL Bo atK Br)
structure ALR where
 kind : Int
 bs : Sl
 key : ByteArray
 til : ByteArray
 most : Int
 ks : Sl
structure ALq (N : Nat) (h : Heap) (x : ALR) (l : List Pr) (ks : List Int) : Prop where
 bs : View Af h x.bs l
 ks : View EZ h x.ks ks
 key : x.key.size ≤ N
theorem AFz {α : Type} {E : Enc α} {h : Heap} {s : Sl} {l : List α} (v : View E h s l) (hl : l ≠ []) {b : Nat} (hb : s.blk = some b) : b < h.size := by
 cases l with
 | nil => exact absurd rfl hl
 | cons x l =>
  obtain ⟨a, ha, hc⟩ := v.cells 0 x rfl
  have hp := E.pos
  have hle := E.len x
  obtain ⟨u, hu⟩ : ∃ u, (E.enc x)[0]? = some u := ⟨_, List.getElem?_eq_getElem (by omega)⟩
  have := Sv (hc 0 u hu)
  rw [add_block, add_block] at this
  have e : a.block = b := by simpa [Sl.blk, ha] using hb
  omega
section
variable {A : Amb} {B : Bud} {g h : Heap} {q : Hp} {k : Nat → Nat} {st : Db} {m : Bx} {D : BK} {age c : Nat} {R : Value → Heap → Prop}
theorem BA.put {age' c' : Nat} (S : BA B g h q k st m D age c) (h1 : age ≤ age') (h2 : c ≤ c') (h3 : c' ≤ B.C) : BA B g h q k st m D age' c' := (S.age h1).more h2 h3
theorem BA.args (S : BA B g h q k st m D age c) {s : Sl} {l : List Pr} (v : View Af g s l) : l ≠ [] → ∀ b, s.blk = some b → b < h.size ∧ k b = 0 := fun hl b hb => by
 have h1 := AFz v hl hb
 have := S.mem.ext.size
 exact ⟨by omega, S.base h1⟩
structure MapAt (h : Heap) (k : Nat → Nat) (bm : Nat) (sm : Sl) (mp : List Pr) : Prop where
 cell : h[bm]? = some (.cells #[.slice sm.p sm.len sm.cap] Cb (0, 0))
 kz : k bm = 0
 view : View Af h sm mp
 blk : ∀ c, sm.blk = some c → k c = 0 ∧ c < h.size ∧ c ≠ bm
theorem MapAt.lt {bm : Nat} {sm : Sl} {mp : List Pr} (M : MapAt h k bm sm mp) : bm < h.size := (Array.getElem?_eq_some_iff.1 M.cell).1
theorem MapAt.step {h' : Heap} {k' : Nat → Nat} {bm : Nat} {sm : Sl} {mp : List Pr} {S : Nat → Prop} (M : MapAt h k bm sm mp) (md : Mod S h h') (hS : ∀ c, S c → k c ≠ 0 ∨ h.size ≤ c) (hk : ∀ c, k' c ≠ 0 → k c ≠ 0 ∨ h.size ≤ c) : MapAt h' k' bm sm mp := by
 have hl := M.lt
 have sz := md.size
 have nk : ∀ c, k c = 0 → c < h.size → k' c = 0 := fun c h1 h2 => Decidable.byContradiction fun h3 => by
  rcases hk c h3 with h4 | h4
  ·exact h4 h1
  ·omega
 have ns : ∀ c, k c = 0 → c < h.size → ¬ S c := fun c h1 h2 h3 => by
  rcases hS c h3 with h4 | h4
  ·exact h4 h1
  ·omega
 exact ⟨md.blk M.cell (ns _ M.kz hl), nk _ M.kz hl, M.view.mod md fun c hc => ns _ (M.blk c hc).1 (M.blk c hc).2.1, fun c hc => ⟨nk _ (M.blk c hc).1 (M.blk c hc).2.1, by have := (M.blk c hc).2.1; omega, (M.blk c hc).2.2⟩⟩
theorem MapAt.ext {h' : Heap} {bm : Nat} {sm : Sl} {mp : List Pr} (M : MapAt h k bm sm mp) (x : Ext h h') : MapAt h' k bm sm mp := M.step x (fun _ h => h.elim) (fun _ h => .inl h)
end
theorem AEQ {A : Amb} {B : Bud} {g h : Heap} {q : Hp} {k : Nat → Nat} {st : Db} {m : Bx} {D : BK} {age c : Nat} {R : Value → Heap → Prop} {s : Sl} {l : List Pr} (E : Evn g) (S : BA B g h q k st m D age c) (fu : m.fuel = -1) (hA : age + 3 ≤ B.A) (hv : View Af h s l) (hs : l ≠ [] → ∀ b, s.blk = some b → b < h.size ∧ k b = 0) (hC : c + 64 ≤ B.C)
  (H : ∀ h' q' k' st' m' D', q'.d = q.d → q'.b = q.b → BA B g h' q' k' st' m' D' (age + 3) (c + 64) → m'.fuel = -1 → BH st' = (if Bu l = 0 then wrL (BH st) l else BH st) → (∀ y, ¬ Mine y → ff m' y = ff m y) → Mod (fun c => k c ≠ 0) h h' → (∀ c, k' c ≠ 0 → k c ≠ 0 ∨ h.size ≤ c) → R (.int .i64 (Bu l)) h') :
  AA A P Ex #[BC q.d, .slice s.p s.len s.cap] h R := by
 by_cases hck : Bu l = 0
 ·have hl := (KI hck).1.len
  refine XJ (B := B) (s := s) E S hA hv hs (fun _ => by omega) (fun hne => absurd hck hne) (fun _ h' m' fe => absurd fu fe.fuel) (fun _ h' m' fe => absurd fu fe.fuel) fun _ h7 q7 k7 st7 m7 D7 ed7 eb7 S7 sty7 wr7 ot7 md7 kk7 => ?_
  have := H h7 q7 k7 st7 m7 D7 ed7 eb7 (S7.put (Nat.le_refl _) (by omega) hC) (sty7.calm fu) (by rw [if_pos hck]; exact wr7.map) ot7 md7 kk7
  rwa [hck] at this
 ·refine XJ (B := B) (s := s) E S hA hv hs (fun hz => absurd hz hck) (fun hne h7 x7 => ?_) (fun hz => absurd hz hck) (fun hz => absurd hz hck) (fun hz => absurd hz hck)
  exact H h7 q k st m D rfl rfl ((S.on x7).put (by omega) (by omega) hC) fu (by rw [if_neg hck]) (fun _ _ => rfl) (x7.weak fun c _ hc => hc.elim) fun c hc => .inl hc
end Go.Lf.G

/-
 Arguments of the store's statements, opened.
-/
set_option maxRecDepth 100000
set_option linter.unusedVariables false
set_option linter.unusedSimpArgs false
namespace Go.Lf.G
open Go Go.ChangeShapes Go.WideShapes Go.ChangeAt Go.RowKit Go.Proofs.YtdmlhpjdmgaggaaGreatDoor
theorem Wx {H : Type} {d : DataW H} : ∀ {ds : List (DataW H)}, d ∈ ds → Rows.uptoBulk d ≤ Rows.uptoBulkAll ds
 | [], h => by cases h
 | x :: l, h => by
  unfold Rows.uptoBulkAll
  rcases List.mem_cons.1 h with rfl | h
  ·omega
  ·have := Wx h; omega
theorem AHj : P.cellsOf AP = 1 := by kernel_rfl
section
variable {H : Type} {enc : TypeId × Value → H} {w : World} {base : Nat} {spare : Nat → Bool} {held : Bool}
theorem MK {tS t : TypeId} {n : Nat} {cs : List Value} {x : DataW H × List MemPlace} (hT : P.underlying tS = some (.slice t)) (h : DataW.trod enc P w base spare held n tS cs = some x) : ∃ s : Sl, cs = [.slice s.p s.len s.cap] := by
 rcases Deep.open_slice hT h with ⟨rfl, _⟩ | ⟨a, len', cap', m, n', D, Pl, rfl, _⟩
 ·exact ⟨⟨none, 0, 0⟩, rfl⟩
 ·exact ⟨⟨some a, len', cap'⟩, rfl⟩
end
def fieldsOf (P : Program) (t : TypeId) : Option (List (TypeId × Nat)) := match P.underlying t with
 | some (.struct fs) => some (fs.toList.map fun f => (f.type, f.offset))
 | _ => none
section
variable {H : Type} {enc : TypeId × Value → H} {w : World} {base : Nat} {spare : Nat → Bool} {held : Bool}
theorem Ot {t : TypeId} {fts : List (TypeId × Nat)} {n : Nat} {cs : List Value} {x : DataW H × List MemPlace} (ht : fieldsOf P t = some fts) (h : DataW.trod enc P w base spare held n t cs = some x) :
  ∃ (xs : List (DataW H × List MemPlace)) (m : Nat), x = (.agg (xs.map (·.1)), xs.flatMap (·.2)) ∧ cs.length = P.cellsOf t ∧ xs.length = fts.length ∧
   ∀ (i : Nat) (f : TypeId × Nat), fts[i]? = some f → DataW.trod enc P w base spare held m f.1 ((cs.drop f.2).take (P.cellsOf f.1)) = xs[i]? := by
 unfold fieldsOf at ht
 split at ht
 ·rename_i fs hfs
  simp at ht
  subst ht
  obtain ⟨xs, m, _, rfl, h1, h2, h3⟩ := DataW.trod_struct hfs h
  refine ⟨xs, m, rfl, h1, by simpa using h2, fun i f hf => ?_⟩
  simp only [List.getElem?_map, Option.map_eq_some_iff, Array.getElem?_toList] at hf
  obtain ⟨g, hg, rfl⟩ := hf
  exact h3 i g hg
 ·cases ht
end
theorem P5 {H : Type} {enc : TypeId × Value → H} {W : World} {base : Nat} {v : Value} {d : DataW H} {ps : List MemPlace} (hv : Value.okWide P W .any base AP v) (h : DataW.Trod enc P W 0 (fun _ => true) true AP v d ps) :
  ∃ (s : Sl) (l : List Pr), v = .slice s.p s.len s.cap ∧ View Af W.heap s l ∧ l.length ≤ Rows.uptoBulk d := M.P5 hv h
end Go.Lf.G

/-
 Plain law, no program in sight: the keys that begin with a prefix lie between it and what is above it (chapter 10).
-/
set_option maxRecDepth 100000
set_option linter.unusedVariables false
set_option linter.unusedSimpArgs false
namespace Go.Lf
open Go
def abL : List UInt8 → Option (List UInt8)
 | [] => none
 | a :: p => match abL p with
  | some q => some (a :: q)
  | none => if a < 255 then some [a + 1] else none
theorem AGE {a b : UInt8} (h : a < 255) : b < a + 1 ↔ ¬ a < b := by
 have h1 : a.toNat < 255 := UInt8.lt_iff_toNat_lt.1 h
 have e : (a + 1).toNat = a.toNat + 1 := by rw [UInt8.toNat_add]; show (a.toNat + 1) % 256 = _; omega
 rw [UInt8.lt_iff_toNat_lt, UInt8.lt_iff_toNat_lt, e]; omega
theorem AKh {a b : UInt8} (h : ¬ a < 255) : ¬ a < b := fun h2 => by
 rw [UInt8.lt_iff_toNat_lt] at h h2
 have : b.toNat < 256 := b.toNat_lt
 have e : (255 : UInt8).toNat = 255 := rfl
 omega
theorem AFb : ∀ (p k : List UInt8), (¬ k < p ∧ (∀ q, abL p = some q → k < q)) ↔ p <+: k
 | [], k => by simp [abL]
 | a :: p, [] => by
  constructor
  ·rintro ⟨h, _⟩; exact absurd (List.nil_lt_cons a p) h
  ·intro h; exact absurd (List.prefix_nil.1 h) (by simp)
 | a :: p, b :: k => by
  have ih := AFb p k
  have hlt : ∀ {x y : UInt8} {l m : List UInt8}, x :: l < y :: m ↔ x < y ∨ x = y ∧ l < m := List.cons_lt_cons_iff
  rw [List.cons_prefix_cons, ← ih]
  constructor
  ·rintro ⟨h1, h2⟩
   have hba : ¬ b < a := fun h => h1 (hlt.2 (.inl h))
   have hab : ¬ a < b := fun h => by
    unfold abL at h2
    cases hp : abL p with
    | some q =>
     rw [hp] at h2
     rcases hlt.1 (h2 _ rfl) with h3 | ⟨h3, _⟩
     ·exact hba h3
     ·subst h3; exact UInt8.lt_irrefl _ h
    | none =>
     rw [hp] at h2
     by_cases ha : a < 255
     ·have := h2 [a + 1] (by simp [ha])
      rcases hlt.1 this with h3 | ⟨_, h3⟩
      ·exact (AGE ha).1 h3 h
      ·exact absurd h3 (by simp)
     ·exact AKh ha h
   have e : a = b := by
    by_cases e : a = b
    ·exact e
    ·rcases UInt8.lt_or_lt_of_ne e with h | h
     ·exact absurd h hab
     ·exact absurd h hba
   subst e
   refine ⟨rfl, fun h => h1 (hlt.2 (.inr ⟨rfl, h⟩)), fun q hq => ?_⟩
   have := h2 (a :: q) (by unfold abL; rw [hq])
   rcases hlt.1 this with h3 | ⟨_, h3⟩
   ·exact absurd h3 (UInt8.lt_irrefl _)
   ·exact h3
  ·rintro ⟨rfl, h1, h2⟩
   refine ⟨fun h => ?_, fun q hq => ?_⟩
   ·rcases hlt.1 h with h3 | ⟨_, h3⟩
    ·exact absurd h3 (UInt8.lt_irrefl _)
    ·exact h1 h3
   ·unfold abL at hq
    cases hp : abL p with
    | some q' =>
     rw [hp] at hq
     obtain rfl := Option.some.inj hq
     exact hlt.2 (.inr ⟨rfl, h2 q' hp⟩)
    | none =>
     rw [hp] at hq
     by_cases ha : a < 255
     ·have e : q = [a + 1] := by simpa [ha] using hq.symm
      subst e
      exact hlt.2 (.inl ((AGE ha).2 (UInt8.lt_irrefl _)))
     ·simp [ha] at hq
theorem AAd : ∀ {p : List UInt8}, (∀ x ∈ p, ¬ x < 255) → abL p = none
 | [], _ => rfl
 | a :: p, h => by
  unfold abL
  rw [AAd fun x hx => h x (List.mem_cons_of_mem _ hx)]
  simp [h a List.mem_cons_self]
theorem AKM : ∀ {p : List UInt8} {i : Nat} {a : UInt8}, p[i]? = some a → a < 255 → (∀ x ∈ p.drop (i + 1), ¬ x < 255) → abL p = some (p.take i ++ [a + 1])
 | [], i, a, h, _, _ => by simp at h
 | b :: p, 0, a, h, ha, hd => by
  simp at h
  subst h
  unfold abL
  rw [AAd (by simpa using hd)]
  simp [ha]
 | b :: p, i + 1, a, h, ha, hd => by
  unfold abL
  rw [AKM (p := p) (i := i) (a := a) (by simpa using h) ha (by simpa using hd)]
  simp
def MP (p k : ByteArray) : Bool := (p.data.toList).isPrefixOf k.data.toList
theorem ADQ (p k : ByteArray) : MP p k = true ↔ p.data.toList <+: k.data.toList := by unfold MP; rw [List.isPrefixOf_iff_prefix]
end Go.Lf

/-
 Plain law: what a prefix tells (chapter 10).
-/
set_option maxRecDepth 100000
set_option linter.unusedVariables false
set_option linter.unusedSimpArgs false
namespace Go.Lf.G
open Go
def maxS (p f : ByteArray) : ByteArray := if sLt p f then f else p
theorem AKv (p f k : ByteArray) : sLt k (maxS p f) = false ↔ sLt k p = false ∧ sLt k f = false := by
 unfold maxS
 split
 ·rename_i h
  refine ⟨fun h2 => ⟨?_, h2⟩, fun h2 => h2.2⟩
  cases h3 : sLt k p
  ·rfl
  ·rw [CP h3 h] at h2; cases h2
 ·rename_i h
  refine ⟨fun h2 => ⟨h2, ?_⟩, fun h2 => h2.1⟩
  exact Tk (by simpa using h) h2
def KT (p : ByteArray) : ByteArray := ⟨((abL p.data.toList).getD []).toArray⟩
theorem ALb : ∀ {p q : List UInt8}, abL p = some q → q ≠ []
 | [], q, h => by cases h
 | a :: p, q, h => by
  unfold abL at h
  split at h
  ·obtain rfl := Option.some.inj h; simp
  ·split at h
   ·obtain rfl := Option.some.inj h; simp
   ·cases h
theorem AHx (p k : ByteArray) : (decide (KT p = ⟨#[]⟩) || sLt k (KT p)) = true ↔ ∀ q, abL p.data.toList = some q → k.data.toList < q := by
 unfold KT
 cases h : abL p.data.toList with
 | none => simp
 | some q =>
  have hq := ALb h
  have e : decide ((⟨(Option.getD (some q) []).toArray⟩ : ByteArray) = ⟨#[]⟩) = false := decide_eq_false fun e => hq (by
   have := congrArg (fun b : ByteArray => b.data.toList) e
   simpa using this)
  rw [e, Bool.false_or, R8]
  simp
theorem AJC (p f k : ByteArray) : ABC (maxS p f) (KT p) k = (MP p k && !sLt k f) := by
 rw [Bool.eq_iff_iff]
 unfold ABC
 rw [Bool.and_eq_true, Bool.and_eq_true, AHx, Bool.not_eq_true', AKv, ADQ, ← AFb, Bool.not_eq_true']
 rw [show (sLt k p = false ↔ ¬ k.data.toList < p.data.toList) from by rw [R8]; simp]
 constructor
 ·rintro ⟨⟨h1, h2⟩, h3⟩; exact ⟨⟨h1, h3⟩, h2⟩
 ·rintro ⟨⟨h1, h3⟩, h2⟩; exact ⟨⟨h1, h2⟩, h3⟩
def AGz (m : List Pr) (p f : ByteArray) (most : Int) : List Pr := (m.filter fun x => MP p x.key && !sLt x.key f).take most.toNat
theorem ACw (m : List Pr) (p f : ByteArray) (most : Int) : YL m (maxS p f) (KT p) most = AGz m p f most := by
 unfold YL L8 AGz
 rw [List.filter_congr fun x _ => AJC p f x.key]
def Co (m : List Pr) (c : Pr) : Bool := if c.gone then !(Fj m c.key).2 else (Fj m c.key).2 && decide ((Fj m c.key).1 = c.val)
end Go.Lf.G

/-
 Contracts: a store of conditions over a calm box (chapter 10).
-/
set_option maxRecDepth 100000
set_option linter.unusedVariables false
set_option linter.unusedSimpArgs false
namespace Go.Lf.G
open Go
open M (Sorted Ah Df BL Al BF CZ Au OkL Bo atK Br)
structure Ej (B : Bud) (g h : Heap) (s : Nat) (q : Hp) (k : Nat → Nat) (st : Db) (m : Bx) (D : BK) (age c n : Nat) : Prop where
 db : BA B g h q k st m D age c
 cell : h[s]? = some (.cells #[BC q.d, .int .i64 (n : Int)] Og (0, 0))
 kz : k s = 0
 base : g.size ≤ s
 fuel : m.fuel = -1
 cnt : n ≤ 1000000
def doC (m cl l : List Pr) : Int := if cl.length > 64 then 2 else if Bu l ≠ 0 then Bu l else if cl.all (Co m) then 0 else 100
theorem Ow {m : List Pr} {c : Pr} : Co m c = !(((Fj m c.key).2 == c.gone) || ((Fj m c.key).2 && !sEq (Fj m c.key).1 c.val)) := by
 unfold Co
 rw [BR]
 cases c.gone <;> cases (Fj m c.key).2 <;> simp
section
variable {A : Amb} {B : Bud} {g h : Heap} {s : Nat} {q : Hp} {k : Nat → Nat} {st : Db} {m : Bx} {D : BK} {age c n : Nat} {R : Value → Heap → Prop}
theorem Ej.on {h' : Heap} (C : Ej B g h s q k st m D age c n) (x : Ext h h') : Ej B g h' s q k st m D age c n := ⟨C.db.on x, Ab x C.cell, C.kz, C.base, C.fuel, C.cnt⟩
theorem Ej.beside {h' : Heap} {X : Nat → Prop} (C : Ej B g h s q k st m D age c n) (x : Mod X h h') (hX : ∀ c, X c → k c = 0 ∧ g.size ≤ c) (hs : ¬ X s) : Ej B g h' s q k st m D age c n := ⟨C.db.beside x hX, x.blk C.cell hs, C.kz, C.base, C.fuel, C.cnt⟩
theorem Ej.put {age' c' : Nat} (C : Ej B g h s q k st m D age c n) (h1 : age ≤ age') (h2 : c ≤ c') (h3 : c' ≤ B.C) : Ej B g h s q k st m D age' c' n := ⟨C.db.put h1 h2 h3, C.cell, C.kz, C.base, C.fuel, C.cnt⟩
theorem Ej.lt (C : Ej B g h s q k st m D age c n) : s < h.size := Am C.cell
theorem Ej.step {h' : Heap} {q' : Hp} {k' : Nat → Nat} {st' : Db} {m' : Bx} {D' : BK} {age' c' : Nat} (C : Ej B g h s q k st m D age c n) (S : BA B g h' q' k' st' m' D' age' c') (hd : q'.d = q.d) (hf : m'.fuel = -1) (md : Mod (fun c => k c ≠ 0) h h') (kk : ∀ c, k' c ≠ 0 → k c ≠ 0 ∨ h.size ≤ c) : Ej B g h' s q' k' st' m' D' age' c' n := by
 refine ⟨S, by rw [hd]; exact md.blk C.cell (by rw [C.kz]; simp), Decidable.byContradiction fun h3 => ?_, C.base, hf, C.cnt⟩
 have := C.lt
 rcases kk s h3 with h4 | h4
 ·exact h4 C.kz
 ·omega
theorem AGt (C : Ej B g h s q k st m D age c n) (H : R (.int .i64 (n : Int)) h) : AA A P Fu #[BC s] h R := by
 refine Qr ?_
 unfold IE
 exact PIf.no rfl (atI (AZ.mk (AB C.cell rfl) H))
theorem AIo {p : ByteArray} (hp : p.size ≤ 1099511627776) (H : ∀ h', Ext h h' → R (.string (KT p)) h') : AA A P LK #[.string p] h R := by
 refine AAq ?_
 unfold PK
 have e0 : IntKind.wrap .i64 ((p.size : Int) - (1 : Int)) = (p.size : Int) - 1 := wrap_i64 (by omega) (by omega)
 rw [e0]
 have hsz : p.data.toList.length = p.size := by rw [Array.length_toList]; rfl
 refine Loop.rule (fun mm x hh => ∃ j : Nat, x = ((j : Int) - 1, ()) ∧ mm = j ∧ hh = h ∧ j ≤ p.size ∧ ∀ x ∈ p.data.toList.drop j, ¬ x < 255) ?_ ⟨p.size, rfl, rfl, rfl, Nat.le_refl _, fun x hx => by rw [List.drop_of_length_le (by omega)] at hx; cases hx⟩
 rintro K mm _ hh ⟨j, rfl, hmm, rfl, hj, hall⟩ hK
 dsimp only
 refine PIf.intro (fun hq => ?_) (fun hq => ?_)
 ·have hj1 : 1 ≤ j := by have := of_decide_eq_true hq; omega
  obtain ⟨i, rfl⟩ : ∃ i, j = i + 1 := ⟨j - 1, by omega⟩
  have ei : ((i + 1 : Nat) : Int) - 1 = (i : Int) := by omega
  rw [ei]
  refine ⟨by omega, ?_⟩
  have hget : p.data.toList[i]? = some (p.data.toList[i]'(by omega)) := List.getElem?_eq_getElem _
  generalize hb : p.data.toList[i]'(by omega) = a at *
  have hat : sAt p (i : Int) = (a.toNat : Int) := by
   unfold sAt
   have : p[i]? = some a := by
    rw [show p[i]? = p.data[i]? from rfl, ← Array.getElem?_toList]; exact hget
   rw [show ((i : Int).toNat) = i from rfl, this]; rfl
  rw [hat]
  have hdrop : p.data.toList.drop i = a :: p.data.toList.drop (i + 1) := by
   rw [List.drop_eq_getElem_cons (by omega), hb]
  refine PIf.intro (fun ha => ?_) (fun ha => ?_)
  ·have ha : a < 255 := by rw [UInt8.lt_iff_toNat_lt]; have := of_decide_eq_true ha; show a.toNat < 255; omega
   have ha2 : a.toNat < 255 := UInt8.lt_iff_toNat_lt.1 ha
   refine ⟨by omega, ⟨by omega, ?_⟩⟩
   have ew : IntKind.wrap .u8 ((a.toNat : Int) + (1 : Int)) = ((a + 1).toNat : Int) := by
    rw [show (a.toNat : Int) + 1 = ((a.toNat + 1 : Nat) : Int) from by omega, wrap_u8]
    have e : (a + 1).toNat = a.toNat + 1 := by rw [UInt8.toNat_add]; show (a.toNat + 1) % 256 = _; omega
    rw [e]; omega
   rw [ew]
   refine New.mk fun h2 _ hb2 x2 s2 => ?_
   have v2 : View IC h2 ⟨some ⟨hh.size, 0, none⟩, 1, 1⟩ [a + 1] := (Own.lit (E := IC) (l := [a + 1]) hb2 rfl (by simp [maxLen])).view
   refine MX (s := ⟨some ⟨hh.size, 0, none⟩, 1, 1⟩) ABh AKC Il v2 ⟨_, rfl, ?_⟩
   have e1 : (Aa [a + 1]).size = 1 := AV _
   have e2 : (p.extract 0 i).size ≤ p.size := by rw [ByteArray.size_extract]; omega
   refine ⟨by rw [show (i : Int).toNat = i from rfl, e1]; show (((p.extract 0 i).size + 1 : Nat) : Int) ≤ 9223372036854775807; omega, ?_⟩
   have := H h2 x2
   have eq : KT p = p.extract 0 i ++ Aa [a + 1] := by
    unfold KT
    rw [AKM hget ha hall]
    apply ByteArray.ext
    rw [ByteArray.data_append, ByteArray.data_extract]
    apply Array.ext'
    rw [Array.toList_append, Array.toList_extract]
    show p.data.toList.take i ++ [a + 1] = _ ++ (Aa [a + 1]).data.toList
    rw [show (Aa [a + 1]).data.toList = [a + 1] from Dk _]
    simp
   rw [eq] at this
   exact this
  ·have ha : ¬ a < 255 := fun h => by
    have := UInt8.lt_iff_toNat_lt.1 h
    have e : (255 : UInt8).toNat = 255 := rfl
    have := of_decide_eq_false ha
    omega
   rw [show IntKind.wrap .i64 ((i : Int) - (1 : Int)) = (i : Int) - 1 from wrap_i64 (by omega) (by omega)]
   refine hK i _ _ (by omega) ⟨i, rfl, rfl, rfl, by omega, fun x hx => ?_⟩
   rw [hdrop] at hx
   rcases List.mem_cons.1 hx with rfl | hx
   ·exact ha
   ·exact hall x hx
 ·have hj0 : j = 0 := by have := of_decide_eq_false hq; omega
  subst hj0
  have := H hh Mod.refl
  have e : KT p = ⟨#[]⟩ := by unfold KT; rw [AAd (by simpa using hall)]; rfl
  rw [e] at this
  exact this
theorem PE {p f : ByteArray} {most : Int} (C : Ej B g h s q k st m D age c n) (hp : p.size ≤ 1099511627776) (H : ∀ sl h', Own Af AO h' sl (AGz (BH st) p f most) → (∀ c, sl.blk = some c → h.size ≤ c) → Ext h h' → R (.tuple #[.slice sl.p sl.len sl.cap, .int .i64 0]) h') : AA A P CY #[BC s, .string p, .string f, .int .i64 most] h R := by
 refine Rw ?_
 unfold JC
 refine PIf.no rfl (atI (AU.mk (AJ C.cell rfl) ?_))
 refine AIo hp fun h1 x1 => ⟨_, rfl, ⟨x1.hget (AJ C.cell rfl), ?_⟩⟩
 have C1 := C.on x1
 obtain ⟨l1, l2, l3, l4⟩ := C1.db.frlen
 have e : (if (!sLt p f) = true then p else f) = maxS p f := by unfold maxS; cases sLt p f <;> rfl
 rw [e]
 refine AJI C1.db.mem l1 l2 l3 fun sl h2 o2 b2 x2 => ⟨sl, _, rfl, ?_⟩
 rw [ACw] at o2
 exact H sl h2 o2 (fun c hc => by have := b2 c hc; have := x1.size; omega) (x1.trans x2)
theorem WM {conds sl : Sl} {cl l : List Pr} (E : Evn g) (C : Ej B g h s q k st m D age c n) (hA : age + 3 ≤ B.A) (hC : c + 64 ≤ B.C) (hn : n + 1 ≤ 1000000) (vc : View Af h conds cl) (v : View Af h sl l) (hs : l ≠ [] → ∀ b, sl.blk = some b → b < h.size ∧ k b = 0) (hk : ∀ x ∈ cl, x.key.size ≤ 1099511627776)
  (He : doC (BH st) cl l ≠ 0 → ∀ h', Ext h h' → R (.int .i64 (doC (BH st) cl l)) h')
  (H1 : doC (BH st) cl l = 0 → ∀ h' q' k' st' m' D', q'.d = q.d → q'.b = q.b → Ej B g h' s q' k' st' m' D' (age + 3) (c + 64) (n + 1) → BH st' = wrL (BH st) l → Mod (fun c => k c ≠ 0 ∨ h.size ≤ c ∨ c = s) h h' → (∀ c, k' c ≠ 0 → k c ≠ 0 ∨ h.size ≤ c) → R (.int .i64 0) h') :
  AA A P BN #[BC s, .slice conds.p conds.len conds.cap, .slice sl.p sl.len sl.cap] h R := by
 refine OH ?_
 unfold H8
 refine PIf.no rfl ?_
 rw [vc.len]
 refine PIf.intro (fun hq => ?_) (fun hq => ?_)
 ·have h64 : cl.length > 64 := by have := of_decide_eq_true hq; omega
  have e : doC (BH st) cl l = 2 := by unfold doC; rw [if_pos h64]
  have := He (by rw [e]; decide) h Mod.refl
  rwa [e] at this
 have h64 : ¬ cl.length > 64 := by have := of_decide_eq_false hq; omega
 refine YQ (s := sl) v fun h1 x1 => ⟨_, rfl, ?_⟩
 refine PIf.intro (fun hz => ?_) (fun hz => ?_)
 ·have hck : Bu l ≠ 0 := by simpa using hz
  have e : doC (BH st) cl l = Bu l := by unfold doC; rw [if_neg h64, if_pos hck]
  have := He (by rw [e]; exact hck) h1 x1
  rwa [e] at this
 have hck : Bu l = 0 := by simpa using hz
 have e : doC (BH st) cl l = if cl.all (Co (BH st)) then 0 else 100 := by unfold doC; rw [if_neg h64, if_neg (by rw [hck]; simp)]
 rw [e] at He H1
 refine Loop.rule (fun mm x hh => ∃ i : Nat, x = ((i : Int), ()) ∧ mm = cl.length - i ∧ i ≤ cl.length ∧ Ext h hh ∧ (cl.take i).all (Co (BH st)) = true) ?_ ⟨0, rfl, rfl, Nat.zero_le _, x1, rfl⟩
 rintro K mm _ hh ⟨i, rfl, rfl, hi, xx, hall⟩ hK
 have Ch := C.on xx
 dsimp only
 refine PIf.intro (fun hq => ?_) (fun hq => ?_)
 ·have hil : i < cl.length := by have := of_decide_eq_true hq; omega
  have hget : cl[i]? = some cl[i] := List.getElem?_eq_getElem hil
  have hkc := hk cl[i] (List.getElem_mem hil)
  have hmem : cl[i] ∈ cl := List.getElem_mem hil
  have htk : cl.take (i + 1) = cl.take i ++ [cl[i]] := by rw [List.take_add_one, hget]; rfl
  generalize cl[i] = x at *
  rw [← vc.len]
  refine (vc.ext xx).idx hget fun a _ c0 => ?_
  obtain ⟨c0, c1, c2⟩ := c0.pair
  refine AC.mk c0 (AC.mk c1 (AY.mk c2 (New.pair fun b h3 eb3 hb3 x3 s3 => ?_)))
  have C3 := Ch.on x3
  refine atI (AU.mk (AJ C3.cell rfl) (AC.mk (AJ hb3 rfl) ?_))
  obtain ⟨l1, l2, l3, l4⟩ := C3.db.frlen
  refine AIw C3.db.mem l2 hkc fun h7 x7 => ⟨_, _, _, rfl, PIf.no rfl ?_⟩
  have hb7 := Ab x7 hb3
  have xh7 := (xx.trans x3).trans x7
  refine Join.mk fun K1 hK1 => ?_
  have hh := Ow (m := BH st) (c := x)
  have bad : Co (BH st) x = false → K1 (true, ()) h7 := fun hf => hK1 _ _ (PIf.yes rfl (by
   have hne : ¬ cl.all (Co (BH st)) = true := fun h => by
    have := List.all_eq_true.1 h x hmem
    rw [hf] at this; cases this
   rw [if_neg hne] at He
   exact He (by decide) h7 xh7))
  have good : Co (BH st) x = true → K1 (false, ()) h7 := fun hf => hK1 _ _ (PIf.no rfl (by
   rw [AR (by omega)]
   refine hK (cl.length - (i + 1)) _ _ (by omega) ⟨i + 1, rfl, rfl, hil, xh7, ?_⟩
   rw [htk, List.all_append, hall]
   simp [hf]))
  refine AY.mk (AB hb7 rfl) (PIf.intro (fun h1 => ?_) (fun h1 => ?_))
  ·exact bad (by rw [hh, h1]; rfl)
  ·refine PIf.intro (fun h2 => ?_) (fun h2 => ?_)
   ·refine AC.mk (AB hb7 rfl) ?_
    cases h3 : sEq (Fj (BH st) x.key).1 x.val with
    | true => exact good (by rw [hh, h1, h2, h3]; rfl)
    | false => exact bad (by rw [hh, h1, h2, h3]; rfl)
   ·exact good (by rw [hh, h1, h2]; rfl)
 ·have hil : i = cl.length := by have := of_decide_eq_false hq; omega
  subst hil
  rw [List.take_length] at hall
  rw [if_pos hall] at H1
  have szh := xx.size
  refine atI (AU.mk (AJ Ch.cell rfl) ?_)
  refine AEQ (B := B) (s := sl) E Ch.db C.fuel hA (v.ext xx) (fun hne b hb => by have := hs hne b hb; exact ⟨by omega, this.2⟩) hC fun h9 q9 k9 st9 m9 D9 ed9 eb9 S9 fu9 mp9 ot9 md9 kk9 => ⟨_, rfl, ?_⟩
  rw [if_pos hck] at mp9
  have C9 := Ch.step S9 ed9 fu9 md9 kk9
  rw [hck]
  refine PIf.no rfl (atI (AZ.mk (AB C9.cell rfl) (atI ?_)))
  rw [AR (by have := C.cnt; omega)]
  simp only [Bw, Nat.zero_add]
  refine Store.mk C9.cell (by simp) fun h10 hb10 md10 s10 => ?_
  have C10 : Ej B g h10 s q9 k9 st9 m9 D9 (age + 3) (c + 64) (n + 1) := ⟨S9.beside md10 (fun c hc => by subst hc; exact ⟨C9.kz, C.base⟩), by simpa using hb10, C9.kz, C.base, fu9, hn⟩
  have hb := C.base
  refine H1 rfl h10 q9 k9 st9 m9 D9 ed9 eb9 C10 mp9 (((xx.weak fun c _ hc => hc.elim).trans (md9.weak fun c _ hc => .inl hc)).trans (md10.weak fun c _ hc => .inr (.inr hc))) fun c hc => ?_
  rcases kk9 c hc with h | h
  ·exact .inl h
  ·exact .inr (by omega)
end
end Go.Lf.G

/-
 Contracts: the document's store of conditions (chapter 10).
-/
set_option maxRecDepth 100000
set_option linter.unusedVariables false
set_option linter.unusedSimpArgs false
namespace Go.Lf.G
open Go
open M (Sorted Ah Df BL Al BF CZ Au OkL Bo atK Br)
section
variable {A : Amb} {h : Heap} {R : Value → Heap → Prop}
theorem AGS {s : Sl} {m : List Pr} {n : Int} {x : Pr} (v : View Af h s m) (hs : Sorted m) (hl : m.length ≤ 1099511627776) (H : ∀ h', Ext h h' → R (.bool (Co m x)) h') : AA A P DI #[.agg #[.slice s.p s.len s.cap, .int .i64 n], .agg #[.string x.key, .string x.val, .bool x.gone]] h R := by
 refine KP ?_
 unfold EL
 refine New.mk fun h1 _ hb1 x1 s1 => New.mk fun h2 _ hb2 x2 s2 => ?_
 have x02 := x1.trans x2
 refine AQ.mk (s := s) (AJ (Ab x2 hb1) rfl) (AC.mk (AJ hb2 rfl) ?_)
 refine ABe (s := s) (v.ext x02) hs hl fun h3 x3 => ⟨_, _, rfl, ?_⟩
 have hb3 := Ab x3 hb2
 have x03 := x02.trans x3
 have hH := H h3 x03
 have hh := Ow (m := m) (c := x)
 refine AY.mk (AB hb3 rfl) (PIf.intro (fun q1 => ?_) (fun q1 => ?_))
 ·have e : Co m x = !(Fj m x.key).2 := by unfold Co; rw [if_pos q1]
  rwa [e] at hH
 ·refine PIf.intro (fun q2 => ?_) (fun q2 => ?_)
  ·refine AC.mk (AB hb3 rfl) ?_
   have e : Co m x = sEq (Fj m x.key).1 x.val := by unfold Co; rw [if_neg (by rw [q1]; decide), q2, BR]; rfl
   rwa [e] at hH
  ·have e : Co m x = false := by unfold Co; rw [if_neg (by rw [q1]; decide), q2]; rfl
   rwa [e] at hH
def doM (m cl l : List Pr) : List Pr := if doC m cl l = 0 then wrL m l else m
def doN (m cl l : List Pr) (n : Nat) : Nat := if doC m cl l = 0 then n + 1 else n
theorem AEU {s conds sl : Sl} {m cl l : List Pr} {n : Nat} (v : View Af h s m) (hb : ∀ c, s.blk = some c → c < h.size) (vc : View Af h conds cl) (vl : View Af h sl l) (hs : Sorted m) (hm : m.length ≤ 900000) (hn : n ≤ 1000000)
  (H : ∀ s' h', View Af h' s' (doM m cl l) → (∀ c, s'.blk = some c → s.blk = some c ∨ (h.size ≤ c ∧ c < h'.size)) → Ext h h' → R (.tuple #[.agg #[.slice s'.p s'.len s'.cap, .int .i64 (doN m cl l n : Int)], .int .i64 (doC m cl l)]) h') :
  AA A P Bj #[.agg #[.slice s.p s.len s.cap, .int .i64 (n : Int)], .slice conds.p conds.len conds.cap, .slice sl.p sl.len sl.cap] h R := by
 refine MS ?_
 unfold FK
 refine New.mk fun h1 _ hb1 x1 s1 => New.mk fun h2 _ hb2 x2 s2 => ?_
 have x02 := x1.trans x2
 have c1 := Ab x2 hb1
 have sz1 := x1.size
 have sz2 := x2.size
 have lay : ∀ hh (s' : Sl) (n' code : Int), Ext h2 hh → (∀ h', Mod (fun c => c = h1.size) hh h' → R (.tuple #[.agg #[.slice s'.p s'.len s'.cap, .int .i64 n'], .int .i64 code]) h') →
   Store hh (⟨h1.size, 0, none⟩ : Addr) (.slice s'.p s'.len s'.cap) fun h3 => Store h3 ((⟨h1.size, 0, none⟩ : Addr).add 1) (.int .i64 n') fun h4 => AQ h4 (⟨h1.size, 0, none⟩ : Addr) fun res_0 => AZ .i64 h4 ((⟨h1.size, 0, none⟩ : Addr).add 1) fun res_1 => R (.tuple #[.agg #[.slice res_0.p res_0.len res_0.cap, .int .i64 res_1], .int .i64 code]) h4 := by
  intro hh s' n' code xx HR
  have cb := Ab xx hb2
  simp only [Bw, Nat.zero_add]
  refine Store.mk cb (by simp) fun h3 hb3 m3 s3 => Store.mk hb3 (by simp) fun h4 hb4 m4 s4 => ?_
  have hb4 : h4[h1.size]? = some (.cells #[.slice s'.p s'.len s'.cap, .int .i64 n'] Ag (0, 0)) := by simpa using hb4
  refine AQ.mk (s := s') (AJ hb4 rfl) (AZ.mk (AJ hb4 rfl) ?_)
  exact HR h4 (m3.trans m4)
 have stay : doC m cl l ≠ 0 → ∀ hh, Ext h2 hh → ∀ h', Mod (fun c => c = h1.size) hh h' → R (.tuple #[.agg #[.slice s.p s.len s.cap, .int .i64 (n : Int)], .int .i64 (doC m cl l)]) h' := by
  intro hne hh xx h' md
  have sz := md.size
  have szx := xx.size
  have e1 : doM m cl l = m := if_neg hne
  have e2 : doN m cl l n = n := if_neg hne
  have := H s h' (by rw [e1]; exact ((v.ext x02).ext xx).mod md fun c hc e => by have := hb c hc; omega) (fun c hc => .inl hc) ((x02.trans xx).then (md.weak fun c _ hc => .inr (by omega)))
  rwa [e2] at this
 rw [vc.len]
 refine PIf.intro (fun hq => ?_) (fun hq => ?_)
 ·have h64 : cl.length > 64 := by have := of_decide_eq_true hq; omega
  have e : doC m cl l = 2 := by unfold doC; rw [if_pos h64]
  refine AQ.mk (s := s) (AJ c1 rfl) (AZ.mk (AB c1 rfl) (lay h2 s (n : Int) 2 Mod.refl fun h' md => ?_))
  have := stay (by rw [e]; decide) h2 Mod.refl h' md
  rwa [e] at this
 have h64 : ¬ cl.length > 64 := by have := of_decide_eq_false hq; omega
 refine AGe (s := sl) (vl.ext x02) fun h5 x5 => ⟨_, rfl, ?_⟩
 have c5 := Ab x5 c1
 refine PIf.intro (fun hz => ?_) (fun hz => ?_)
 ·have hck : Bu l ≠ 0 := by simpa using hz
  have e : doC m cl l = Bu l := by unfold doC; rw [if_neg h64, if_pos hck]
  refine AQ.mk (s := s) (AJ c5 rfl) (AZ.mk (AB c5 rfl) (lay h5 s (n : Int) (Bu l) x5 fun h' md => ?_))
  have := stay (by rw [e]; exact hck) h5 x5 h' md
  rwa [e] at this
 have hck : Bu l = 0 := by simpa using hz
 have hl64 := (KI hck).1.len
 have e : doC m cl l = if cl.all (Co m) then 0 else 100 := by unfold doC; rw [if_neg h64, if_neg (by rw [hck]; simp)]
 refine Loop.rule (fun mm x hh => ∃ i : Nat, x = ((i : Int), ()) ∧ mm = cl.length - i ∧ i ≤ cl.length ∧ Ext h2 hh ∧ (cl.take i).all (Co m) = true) ?_ ⟨0, rfl, rfl, Nat.zero_le _, x5, rfl⟩
 rintro K mm _ hh ⟨i, rfl, rfl, hi, xx, hall⟩ hK
 have ch := Ab xx c1
 have xh := x02.trans xx
 dsimp only
 refine PIf.intro (fun hq => ?_) (fun hq => ?_)
 ·have hil : i < cl.length := by have := of_decide_eq_true hq; omega
  have hget : cl[i]? = some cl[i] := List.getElem?_eq_getElem hil
  have hmem : cl[i] ∈ cl := List.getElem_mem hil
  have htk : cl.take (i + 1) = cl.take i ++ [cl[i]] := by rw [List.take_add_one, hget]; rfl
  generalize cl[i] = x at *
  rw [← vc.len]
  refine AQ.mk (s := s) (AJ ch rfl) (AZ.mk (AB ch rfl) ((vc.ext xh).idx hget fun a _ c0 => ?_))
  obtain ⟨p0, p1, p2⟩ := c0.pair
  refine AC.mk p0 (AC.mk p1 (AY.mk p2 ?_))
  refine AGS (s := s) (x := x) (v.ext xh) hs (by omega) fun h9 x9 => ⟨_, rfl, ?_⟩
  have x29 := xx.trans x9
  have c9 := Ab x9 ch
  refine PIf.intro (fun hf => ?_) (fun ht => ?_)
  ·have hf : Co m x = false := by simpa using hf
   have e1 : doC m cl l = 100 := by
    rw [e, if_neg fun h => by
     have := List.all_eq_true.1 h x hmem
     rw [hf] at this; cases this]
   refine AQ.mk (s := s) (AJ c9 rfl) (AZ.mk (AB c9 rfl) (lay h9 s (n : Int) 100 x29 fun h' md => ?_))
   have := stay (by rw [e1]; decide) h9 x29 h' md
   rwa [e1] at this
  ·have ht : Co m x = true := by simpa using ht
   rw [AR (by omega)]
   refine hK (cl.length - (i + 1)) _ _ (by omega) ⟨i + 1, rfl, rfl, hil, x29, ?_⟩
   rw [htk, List.all_append, hall]
   simp [ht]
 ·have hil : i = cl.length := by have := of_decide_eq_false hq; omega
  subst hil
  rw [List.take_length] at hall
  rw [if_pos hall] at e
  refine AQ.mk (s := s) (AJ ch rfl) ?_
  refine AG6 (s := s) (sb := sl) (v.ext xh) (vl.ext xh) (by omega) fun s' h12 v12 b12 x12 => ⟨s', rfl, ?_⟩
  have szx := xx.size
  have sz12 := x12.size
  refine AZ.mk (AB (Ab x12 ch) rfl) ⟨AB ch rfl, ?_⟩
  rw [AR (by omega)]
  refine lay h12 s' ((n + 1 : Nat) : Int) 0 (xx.trans x12) fun h' md => ?_
  have szm := md.size
  have := H s' h' (by
   rw [show doM m cl l = wrL m l from if_pos e]
   exact v12.mod md fun c hc e => by
    rcases b12 c hc with h | h
    ·have := hb c h; omega
    ·omega) (fun c hc => by
   rcases b12 c hc with h | h
   ·exact .inl h
   ·exact .inr ⟨by omega, by omega⟩) ((xh.trans x12).then (md.weak fun c _ hc => .inr (by omega)))
  rw [e, show doN m cl l n = n + 1 from if_pos e] at this
  exact this
def JW (m : List Pr) (keys : List ByteArray) : List Pr := keys.map fun k => ⟨k, (Fj m k).1, !(Fj m k).2⟩
theorem AHD {s ks : Sl} {m : List Pr} {n : Int} {keys : List ByteArray} (v : View Af h s m) (vk : View EC h ks keys) (hs : Sorted m) (hl : m.length ≤ 1099511627776) (hk : keys.length ≤ 1000000)
  (H : ∀ sl h', Own Af AO h' sl (JW m keys) → (∀ c, sl.blk = some c → h.size ≤ c) → Ext h h' → R (.slice sl.p sl.len sl.cap) h') : AA A P EW #[.agg #[.slice s.p s.len s.cap, .int .i64 n], .slice ks.p ks.len ks.cap] h R := by
 refine Rc ?_
 unfold Ib
 refine New.mk fun h1 _ hb1 x1 s1 => ?_
 have sz1 := x1.size
 refine Loop.rule (fun mm x hh => ∃ (i : Nat) (sl : Sl), x = (sl, (i : Int), ()) ∧ mm = keys.length - i ∧ i ≤ keys.length ∧ Ext h1 hh ∧ Own Af AO hh sl (JW m (keys.take i)) ∧ ∀ c, sl.blk = some c → h1.size ≤ c) ?_
  ⟨0, ⟨none, 0, 0⟩, rfl, rfl, Nat.zero_le _, Mod.refl, Own.nil, fun c hc => by simp [Sl.blk] at hc⟩
 rintro K mm _ hh ⟨i, sl, rfl, rfl, hi, xx, o, b⟩ hK
 dsimp only
 rw [vk.len]
 have xh := x1.trans xx
 refine PIf.intro (fun hq => ?_) (fun hq => ?_)
 ·have hil : i < keys.length := by have := of_decide_eq_true hq; omega
  have hget : keys[i]? = some keys[i] := List.getElem?_eq_getElem hil
  have htk : keys.take (i + 1) = keys.take i ++ [keys[i]] := by rw [List.take_add_one, hget]; rfl
  generalize keys[i] = key at *
  rw [← vk.len]
  refine (vk.ext xh).idx hget fun a _ c0 => ?_
  refine AC.mk c0.str (AQ.mk (s := s) (AJ (Ab xx hb1) rfl) ?_)
  refine ABe (s := s) (v.ext xh) hs hl fun h3 x3 => ⟨_, _, rfl, ?_⟩
  have hlen : (JW m (keys.take i)).length = i := by simp [JW]; omega
  refine New.append1 (E := Af) (x := ⟨key, (Fj m key).1, !(Fj m key).2⟩) rfl M.G7 (o.ext x3) (by rw [hlen]; omega) (by rw [hlen]; simp [maxLen]; omega) fun s' h5 o5 m5 b5 _ => ?_
  rw [AR (by omega)]
  have sz3 := x3.size
  have szx := xx.size
  refine hK (keys.length - (i + 1)) _ _ (by omega) ⟨i + 1, s', rfl, rfl, hil, (xx.trans x3).then (m5.weak fun c _ hc => .inr (b c hc)), by rw [htk]; unfold JW at *; rw [List.map_append]; exact o5, fun c hc => ?_⟩
  rcases b5 c hc with h | h
  ·exact b c h
  ·omega
 ·have hil : i = keys.length := by have := of_decide_eq_false hq; omega
  subst hil
  rw [List.take_length] at o
  exact H sl hh o (fun c hc => by have := b c hc; omega) xh
end
end Go.Lf.G

/-
 A store of conditions that is awake; the law CasCounts (chapter 10) over its formula.
-/
set_option maxRecDepth 100000
set_option linter.unusedVariables false
set_option linter.unusedSimpArgs false
namespace Go.Lf.G
open Go
open M (Sorted Ah Df BL Al BF CZ Au OkL Bo atK Br)
section
variable {A : Amb} {B : Bud} {g h : Heap} {m : Bx} {D : BK} {age c : Nat} {R : Value → Heap → Prop}
theorem ML {b : Nat} {Sb : Nat → Prop} (E : Evn g) (Bx0 : BV h b Sb m) (hx : Ext g h) (hSb : ∀ c, Sb c → g.size ≤ c) (hd : m.down = false) (hfu : m.fuel = -1) (hl : ∀ n, ff m (fnB nl n) = none) (hn : ∀ n, ff m (fnB nn n) = none) (ht : ∀ x, ff m x ≠ none → (bl x).head? ≠ some 116) (hA : 1 ≤ B.A) (hw : wtF m.files ≤ B.W0)
  (H1 : ∀ h' s q' k' st' m' D', q'.b = b → Ej B g h' s q' k' st' m' D' 1 0 0 → BH st' = [] → Mod (fun c => Sb c ∨ h.size ≤ c) h h' → (∀ c, k' c ≠ 0 → Sb c ∨ h.size ≤ c) → h.size ≤ s → R (.tuple #[BC s, .int .i64 0]) h') : AA A P Eb #[BC b] h R := by
 refine Uy ?_
 unfold Mt
 refine AIx (B := B) E Bx0 hx hSb hd hfu hl hn ht hA hw fun h1 q1 k1 st1 m1 D1 eb1 S1 fu1 mp1 _ md1 kk1 => ⟨_, _, rfl, PIf.no rfl (New.mk fun h2 _ hb2 x2 s2 => ?_)⟩
 have szg := S1.mem.ext.size
 exact H1 h2 h1.size q1 k1 st1 m1 D1 eb1 ⟨S1.on x2, hb2, S1.free (Nat.le_refl _), szg, fu1, Nat.zero_le _⟩ mp1 ((md1.weak fun c _ hc => .inl hc).trans (x2.weak fun c _ hc => hc.elim)) kk1 md1.size
theorem AEJ {b : Nat} {Sb : Nat → Prop} {mp : List Pr} (E : Evn g) (Bx0 : BV h b Sb m) (hx : Ext g h) (hSb : ∀ c, Sb c → g.size ≤ c) (hd : m.down = false) (hfu : m.fuel = -1) (hr : Rec (ff m) age c mp) (hc : c ≤ B.C) (hA : age + 1 ≤ B.A) (hw : wtF m.files ≤ B.W0 + age * B.K)
  (H1 : ∀ h' s q' k' st' m' D', q'.b = b → Ej B g h' s q' k' st' m' D' (age + 1) c 0 → BH st' = mp → Mod (fun c => Sb c ∨ h.size ≤ c) h h' → (∀ c, k' c ≠ 0 → Sb c ∨ h.size ≤ c) → h.size ≤ s → R (.tuple #[BC s, .int .i64 0]) h') : AA A P Eb #[BC b] h R := by
 refine Uy ?_
 unfold Mt
 refine AGf (B := B) E Bx0 hx hSb hd hr hc hA hw (fun hf => absurd hfu hf) fun h1 q1 k1 st1 m1 D1 eb1 S1 sty1 mp1 _ md1 kk1 => ⟨_, _, rfl, PIf.no rfl (New.mk fun h2 _ hb2 x2 s2 => ?_)⟩
 have szg := S1.mem.ext.size
 exact H1 h2 h1.size q1 k1 st1 m1 D1 eb1 ⟨S1.on x2, hb2, S1.free (Nat.le_refl _), szg, sty1.calm hfu, Nat.zero_le _⟩ mp1 ((md1.weak fun c _ hc => .inl hc).trans (x2.weak fun c _ hc => hc.elim)) kk1 md1.size
end
def cA : Pr := ⟨ka, ⟨#[]⟩, true⟩
theorem AHK : doC [] [cA] [pA1] = 0 := by decide
theorem AI4 : doC (wrL [] [pA1]) [cA] [pA1] = 100 := by decide
theorem NF {A : Amb} {h : Heap} {R : Value → Heap → Prop} (E : Evn h) (H : ∀ h', Ext h h' → R (.bool true) h') : AA A P Ca #[] h R := by
 refine Pe ?_
 unfold Gy
 refine Pz fun b h1 Sb B1 x1 f1 => ⟨_, rfl, ?_⟩
 refine ML (B := AKr) E B1 x1 f1 rfl rfl (fun n => rfl) (fun n => rfl) (fun x hx => absurd rfl hx) (by decide) (by decide) fun h2 s q2 k2 st2 m2 D2 eb2 C2 mp2 md2 kk2 hs => ⟨_, _, rfl, ?_⟩
 refine New.mk fun h3 _ hb3 x3 s3 => New.mk fun h4 _ hb4 x4 s4 => PIf.yes rfl ?_
 have C4 := (C2.on x3).on x4
 have vc : View Af h4 ⟨some ⟨h2.size, 0, none⟩, 1, 1⟩ [cA] := (Own.lit (E := Af) (l := [cA]) (Ab x4 hb3) rfl (by decide)).view
 have vl : View Af h4 ⟨some ⟨h3.size, 0, none⟩, 1, 1⟩ [pA1] := (Own.lit (E := Af) (l := [pA1]) hb4 rfl (by decide)).view
 have k3z : k2 h3.size = 0 := C2.db.free (by omega)
 have k2z : k2 h2.size = 0 := C2.db.free (Nat.le_refl _)
 have hsl := C2.lt
 have hkc : ∀ x ∈ [cA], x.key.size ≤ 1099511627776 := fun x hx => by rw [List.mem_singleton.1 hx]; decide
 refine WM (B := AKr) (conds := ⟨some ⟨h2.size, 0, none⟩, 1, 1⟩) (sl := ⟨some ⟨h3.size, 0, none⟩, 1, 1⟩) E C4 (by decide) (by decide) (by decide) vc vl (fun _ b hb => by
  have e : h3.size = b := by simpa [Sl.blk] using hb
  subst e; exact ⟨by omega, k3z⟩) hkc (fun hne => absurd (by rw [mp2]; exact AHK) hne) fun _ h5 q5 k5 st5 m5 D5 ed5 eb5 C5 mp5 md5 kk5 => ⟨_, rfl, PIf.yes rfl ?_⟩
 rw [mp2] at mp5
 have vc5 : View Af h5 ⟨some ⟨h2.size, 0, none⟩, 1, 1⟩ [cA] := vc.mod md5 fun c hc hm => by
  have e : h2.size = c := by simpa [Sl.blk] using hc
  subst e
  rcases hm with h | h | h
  ·exact h k2z
  ·omega
  ·omega
 have vl5 : View Af h5 ⟨some ⟨h3.size, 0, none⟩, 1, 1⟩ [pA1] := vl.mod md5 fun c hc hm => by
  have e : h3.size = c := by simpa [Sl.blk] using hc
  subst e
  rcases hm with h | h | h
  ·exact h k3z
  ·omega
  ·omega
 have e5 : doC (BH st5) [cA] [pA1] = 100 := by rw [mp5]; exact AI4
 refine WM (B := AKr) (conds := ⟨some ⟨h2.size, 0, none⟩, 1, 1⟩) (sl := ⟨some ⟨h3.size, 0, none⟩, 1, 1⟩) E C5 (by decide) (by decide) (by decide) vc5 vl5 (fun _ b hb => by
  have e : h3.size = b := by simpa [Sl.blk] using hb
  subst e
  have := md5.size
  exact ⟨by omega, Decidable.byContradiction fun hk => by
   rcases kk5 _ hk with h | h
   ·exact h k3z
   ·omega⟩) hkc (fun _ h6 x6 => ?_) (fun hz => absurd hz (by rw [e5]; decide))
 rw [e5]
 refine ⟨_, rfl, PIf.yes rfl ?_⟩
 refine AGt (C5.on x6) ⟨_, rfl, ?_⟩
 exact H h6 (C5.on x6).db.mem.ext
structure Zo where
 kind : Int
 cs : Sl
 bs : Sl
 key : ByteArray
 frm : ByteArray
 most : Int
 all : Bool
def Ul : Enc Zo where
 enc x := [.int .i64 x.kind, .slice x.cs.p x.cs.len x.cs.cap, .slice x.bs.p x.bs.len x.bs.cap, .string x.key, .string x.frm, .int .i64 x.most, .bool x.all]
 w := 7
 len _ := rfl
 pos := by omega
 one x v hv := by simp at hv; rcases hv with rfl | rfl | rfl | rfl | rfl | rfl | rfl <;> rfl
theorem AHF {h : Heap} {a : Addr} {x : Zo} (c : Cells h a (Ul.enc x)) : hget h a = some (.int .i64 x.kind) ∧ hget h (a.add 1) = some (.slice x.cs.p x.cs.len x.cs.cap) ∧ hget h (a.add 2) = some (.slice x.bs.p x.bs.len x.bs.cap) ∧ hget h (a.add 3) = some (.string x.key) ∧ hget h (a.add 4) = some (.string x.frm) ∧ hget h (a.add 5) = some (.int .i64 x.most) ∧ hget h (a.add 6) = some (.bool x.all) := by
 have h0 := c 0 _ rfl
 rw [add_zero] at h0
 exact ⟨h0, c 1 _ rfl, c 2 _ rfl, c 3 _ rfl, c 4 _ rfl, c 5 _ rfl, c 6 _ rfl⟩
structure Vw (N : Nat) (h : Heap) (x : Zo) (cl l : List Pr) : Prop where
 cs : View Af h x.cs cl
 bs : View Af h x.bs l
 keys : ∀ c ∈ cl, c.key.size ≤ N
 key : x.key.size ≤ N
end Go.Lf.G

/-
 The formulas of functions, printed by lift.py; each with the theorem that it is what the lift reckons of the program.
-/
set_option linter.unusedVariables false
set_option maxRecDepth 100000
namespace Go.Lf.G
end Go.Lf.G

/-
 Contracts: strings.HasPrefix; what the document scans (chapter 10).
-/
set_option maxRecDepth 100000
set_option linter.unusedVariables false
set_option linter.unusedSimpArgs false
namespace Go.Lf.G
open Go
open M (Sorted Ah Df BL Al BF CZ Au OkL Bo atK Br)
section
variable {A : Amb} {h : Heap} {R : Value → Heap → Prop}
end
end Go.Lf.G

/-
 Arguments of the statements on conditions, opened.
-/
set_option maxRecDepth 100000
set_option linter.unusedVariables false
set_option linter.unusedSimpArgs false
namespace Go.Lf.G
open Go Go.ChangeShapes Go.WideShapes Go.ChangeAt Go.RowKit Go.Proofs.YtdmlhpjdmgaggaaGreatDoor
theorem AJD : fieldsOf P AO = some [(Ad, 0), (Ad, 1), (Jj, 2)] := by kernel_rfl
theorem ACx : P.cellsOf AO = Af.w := by kernel_rfl
theorem AJQ : P.cellsOf Jj = 1 := by kernel_rfl
theorem AIc : fieldsOf P EF = some [(BO, 0), (AP, 1), (AP, 2), (Ad, 3), (Ad, 4), (BO, 5), (Jj, 6)] := by kernel_rfl
theorem AB5 : P.cellsOf EF = Ul.w := by kernel_rfl
theorem AAa : P.underlying Fp = some (.slice EF) := by kernel_rfl
section
variable {H : Type} {enc : TypeId × Value → H} {w : World} {base : Nat} {spare : Nat → Bool} {held : Bool}
theorem AJa {n : Nat} {cs : List Value} {x : DataW H × List MemPlace} (h : DataW.trod enc P w base spare held n AO cs = some x) :
  ∃ y : Pr, cs = Af.enc y ∧ y.key.size ≤ Rows.uptoBulk x.1 := by
 obtain ⟨xs, m, hx, h1, h2, h3⟩ := Ot AJD h
 rw [ACx] at h1
 match cs, h1 with
 | [c0, c1, c2], _ =>
  match xs, h2 with
  | [x0, x1, x2], _ =>
   have k0 := h3 0 _ rfl
   have k1 := h3 1 _ rfl
   have k2 := h3 2 _ rfl
   simp only [AGU, AJQ] at k0 k1 k2
   obtain ⟨n0, e0, g0, _⟩ := DataW.trod_string Oi k0
   obtain ⟨n1, e1, g1, _⟩ := DataW.trod_string Oi k1
   obtain ⟨n2, e2, _⟩ := DataW.trod_bool Ms k2
   simp at e0 e1 e2
   subst e0 e1 e2
   refine ⟨⟨n0, n1, n2⟩, rfl, ?_⟩
   subst hx
   have hs : n0.data.toList.length = n0.size := by rw [Array.length_toList]; rfl
   have hg : x0.1 = _ := congrArg Prod.fst g0
   simp only [List.map_cons, List.map_nil, Rows.uptoBulk, Rows.uptoBulkAll, hg]
   omega
theorem TN {n : Nat} {p : Option Addr} {len cap : Nat} {x : DataW H × List MemPlace} (h : DataW.trod enc P w base spare held n AP [.slice p len cap] = some x) :
  ∃ l : List Pr, View Af w.heap ⟨p, len, cap⟩ l ∧ ∀ y ∈ l, y.key.size ≤ Rows.uptoBulk x.1 := by
 obtain ⟨l, ds, V, hl, hq, hb⟩ := Vo (E := Af) (Q := fun y d => y.key.size ≤ Rows.uptoBulk d) M.XE ACx (fun n cs x hx => AJa hx) h
 refine ⟨l, V, fun y hy => ?_⟩
 obtain ⟨d, hd, h1⟩ := XK hl hq hy
 have h2 := Wx hd
 omega
theorem AEs {n : Nat} {cs : List Value} {x : DataW H × List MemPlace} (h : DataW.trod enc P w base spare held n EF cs = some x) :
  ∃ y : Zo, cs = Ul.enc y ∧ ∃ cl l, Vw (Rows.uptoBulk x.1) w.heap y cl l := by
 obtain ⟨xs, m, hx, h1, h2, h3⟩ := Ot AIc h
 rw [AB5] at h1
 match cs, h1 with
 | [c0, c1, c2, c3, c4, c5, c6], _ =>
  match xs, h2 with
  | [x0, x1, x2, x3, x4, x5, x6], _ =>
   have k0 := h3 0 _ rfl
   have k1 := h3 1 _ rfl
   have k2 := h3 2 _ rfl
   have k3 := h3 3 _ rfl
   have k4 := h3 4 _ rfl
   have k5 := h3 5 _ rfl
   have k6 := h3 6 _ rfl
   simp only [AHj, AK8, AGU, AJQ] at k0 k1 k2 k3 k4 k5 k6
   obtain ⟨n0, e0, _, _⟩ := DataW.trod_int AAY k0
   obtain ⟨s1, e1⟩ := MK M.XE k1
   obtain ⟨s2, e2⟩ := MK M.XE k2
   obtain ⟨n3, e3, g3, _⟩ := DataW.trod_string Oi k3
   obtain ⟨n4, e4, _, _⟩ := DataW.trod_string Oi k4
   obtain ⟨n5, e5, _, _⟩ := DataW.trod_int AAY k5
   obtain ⟨n6, e6, _⟩ := DataW.trod_bool Ms k6
   have e1' : [c1] = [.slice s1.p s1.len s1.cap] := e1
   have e2' : [c2] = [.slice s2.p s2.len s2.cap] := e2
   simp at e0 e1 e2 e3 e4 e5 e6
   subst e0 e1 e2 e3 e4 e5 e6
   obtain ⟨l1, v1, b1⟩ := TN (p := s1.p) (len := s1.len) (cap := s1.cap) k1
   obtain ⟨l2, v2, _⟩ := TN (p := s2.p) (len := s2.len) (cap := s2.cap) k2
   refine ⟨⟨n0, s1, s2, n3, n4, n5, n6⟩, rfl, l1, l2, v1, v2, fun c hc => ?_, ?_⟩
   ·have := b1 c hc
    subst hx
    simp only [List.map_cons, List.map_nil, Rows.uptoBulk, Rows.uptoBulkAll]
    omega
   ·subst hx
    have hs : n3.data.toList.length = n3.size := by rw [Array.length_toList]; rfl
    have hg : x3.1 = _ := congrArg Prod.fst g3
    simp only [List.map_cons, List.map_nil, Rows.uptoBulk, Rows.uptoBulkAll, hg]
    omega
end
theorem AEr {H : Type} {enc : TypeId × Value → H} {W : World} {base : Nat} {v : Value} {d : DataW H} {ps : List MemPlace} (hv : Value.okWide P W .any base Fp v) (h : DataW.Trod enc P W 0 (fun _ => true) true Fp v d ps) :
  ∃ (s : Sl) (l : List Zo), v = .slice s.p s.len s.cap ∧ View Ul W.heap s l ∧ ∀ x ∈ l, ∃ cl lp, Vw (Rows.uptoBulk d) W.heap x cl lp := by
 obtain ⟨p, len, cap, rfl⟩ := okWide_slice AAa hv
 obtain ⟨n, hn⟩ := h
 obtain ⟨l, ds, V, hl, hq, hb⟩ := Vo (E := Ul) (Q := fun y d => ∃ cl lp, Vw (Rows.uptoBulk d) W.heap y cl lp) AAa AB5 (fun n cs x hx => AEs hx) hn
 refine ⟨⟨p, len, cap⟩, l, rfl, V, fun x hx => ?_⟩
 obtain ⟨d', hd, cl, lp, c⟩ := XK hl hq hx
 have h1 : Rows.uptoBulk d' ≤ Rows.uptoBulkAll ds := Wx hd
 exact ⟨cl, lp, c.cs, c.bs, fun y hy => by have := c.keys y hy; dsimp only at hb; omega, by have := c.key; dsimp only at hb; omega⟩
end Go.Lf.G

