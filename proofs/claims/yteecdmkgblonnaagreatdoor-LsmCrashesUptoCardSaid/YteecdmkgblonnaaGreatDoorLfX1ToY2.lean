/-
 Contracts: a log's files' names (chapter 4).
-/
import Derived.Test.YteecdmkgblonnaaGreatDoorLfB1ToU14
import Derived.Test.YteecdmkgblonnaaGreatDoorRows
import Derived.Lib.ItoaLen
import Derived.Lib.AppendIntMem
import Derived.WalkKit
import Derived.ProofKit
import Derived.OpenShut
import Derived.JoinedCond
import Derived.Deep.Slices
import Derived.Carry
import Derived.Test.YteecdmkgblonnaaGreatDoorLfU1ToU9
import Derived.Test.YteecdmkgblonnaaGreatDoorLfU2ToV2
import Derived.Test.YteecdmkgblonnaaGreatDoorLfKToU6
set_option linter.unusedVariables false
set_option linter.unusedSimpArgs false
set_option maxRecDepth 100000
set_option linter.unusedVariables false
set_option linter.unusedSimpArgs false
namespace Go.Lf.G
open Go
/-- the library's table of powers of ten lies where it lies; so do its two errors -/
def tabName : String := Proofs.YteecdmkgblonnaaGreatDoor.Rows.lsmShapesRow.named.getD 2 (String.ofList [])
def Tab (h : Heap) : Prop := ∀ (A : Amb) (n : Nat), Lib.TabIs P (A.at h n) tabName .u64 Lib.pow10Tab
theorem Tab.ext {h h' : Heap} (t : Tab h) (x : Ext h h') : Tab h' := by
 intro A n
 have h1 := (Lib.tabBelow_of_tabIs (t A n)) (A.at h' n) ⟨rfl, rfl, rfl, x.size, fun k hk => x.get k hk (fun h => h)⟩
 exact h1
def ErrAt (h : Heap) (g : Nat) : Prop := ∃ ev, hget h ⟨g, 0, none⟩ = some ev ∧ (ev = .nilIface ∨ ∃ te pe, ev = .iface te pe)
theorem ErrAt.ext {h h' : Heap} {g : Nat} (e : ErrAt h g) (x : Ext h h') : ErrAt h' g := by
 obtain ⟨ev, h1, h2⟩ := e
 exact ⟨ev, x.hget h1, h2⟩
structure Evn (h : Heap) : Prop where
 tab : Tab h
 syn : ErrAt h (Proofs.Tryz.laysPu14_ren.g 0)
 rng : ErrAt h (Proofs.Tryz.laysPu14_ren.g 1)
theorem Evn.ext {h h' : Heap} (e : Evn h) (x : Ext h h') : Evn h' := ⟨e.tab.ext x, e.syn.ext x, e.rng.ext x⟩
theorem below_at {A : Amb} {h : Heap} {n : Nat} {w : World} (b : RowKit.Below h.size (A.at h n) w) : w = A.at w.heap w.drawn ∧ Ext h w.heap := by
 obtain ⟨h1, h2, h3, h4, h5⟩ := b
 refine ⟨?_, ⟨h4, fun c hc _ => h5 c hc⟩⟩
 cases w
 simp only [Amb.at] at h1 h2 h3 ⊢
 subst h1 h2 h3
 rfl
theorem cell_hget {A : Amb} {h : Heap} {n : Nat} {a : Addr} {v : Value} (e : hget h a = some v) : (A.at h n).cell? a = some v := by
 unfold hget at e
 unfold World.cell?
 exact e
theorem Itoa_ok {A : Amb} {h : Heap} {n : Int} {R : Value → Heap → Prop} (t : Tab h) (h0 : -9223372036854775808 ≤ n) (h1 : n ≤ 9223372036854775807) (H : ∀ h', Ext h h' → R (.string ⟨(Lib.itoa n).toArray⟩) h') :
  HCalls A P f_strconv_Itoa #[.int .i64 n] h R := by
 intro m
 refine Calls.mono (Proofs.Any.strconv_Itoa Proofs.Tryz.laysM171 n h0 h1 (A.at h m) (t A m)) ?_
 rintro e w' ⟨rfl, k, os, rfl⟩
 refine ⟨_, rfl, h ++ os, m + k, rfl, H _ ⟨by simp, fun b hb _ => by rw [Array.getElem?_append_left hb]⟩⟩
theorem Repeat_ok {A : Amb} {h : Heap} {s : ByteArray} {c : Nat} {R : Value → Heap → Prop} (hc : c ≤ 8) (hs : s.size ≤ 8) (H : ∀ h', Ext h h' → R (.string (strL (Lib.repeatL (bl s) c))) h') :
  HCalls A P f_strings_Repeat #[.string s, .int .i64 c] h R := by
 intro m
 have hm : s.size * c ≤ 8 * 8 := Nat.mul_le_mul hs hc
 refine Calls.mono (Proofs.Any.strings_Repeat Proofs.Tryz.lays105 Proofs.Tryz.extra105 s c (A.at h m) (by omega) (by omega)) ?_
 rintro e w' ⟨rfl, hB⟩
 obtain ⟨e1, x⟩ := below_at hB
 exact ⟨_, rfl, w'.heap, w'.drawn, e1, H _ x⟩
theorem CutPrefix_ok {A : Amb} {h : Heap} {s p : ByteArray} {R : Value → Heap → Prop} (H : R (.tuple #[.string (strL (Lib.trimPrefix (bl s) (bl p))), .bool (Lib.hasPrefix (bl s) (bl p))]) h) :
  HCalls A P f_strings_CutPrefix #[.string s, .string p] h R := by
 intro m
 refine Calls.mono (Proofs.Any.strings_CutPrefix Proofs.Tryz.lays103 s p (A.at h m)) ?_
 rintro e w' ⟨rfl, rfl⟩
 exact ⟨_, rfl, h, m, rfl, H⟩
theorem Parse_ok {A : Amb} {h : Heap} {s : ByteArray} {R : Value → Heap → Prop} (E : Evn h) (hs : s.size ≤ 8)
  (H0 : ∀ u : Nat, Lib.parseUintB 32 (bl s) = .ok u → ∀ h', Ext h h' → R (.tuple #[.int .u64 u, .nilIface]) h')
  (H1 : (∀ u, Lib.parseUintB 32 (bl s) ≠ .ok u) → ∀ h' (n : Int) t v, Ext h h' → R (.tuple #[.int .u64 n, .iface t v]) h') :
  HCalls A P f_strconv_ParseUint #[.string s, .int .i64 10, .int .i64 32] h R := by
 intro m
 cases hp : Lib.parseUintB 32 (bl s)
 ·rename_i u
  refine Calls.mono (Proofs.Any.strconv_ParseUint_10_at32_ok Proofs.Tryz.laysPu14 s (by omega) u hp (A.at h m)) ?_
  rintro e w' ⟨rfl, hw | hw⟩
  ·subst hw
   exact ⟨_, rfl, h, m, rfl, H0 u hp h Mod.refl⟩
  ·subst hw
   refine ⟨_, rfl, _, _, rfl, H0 u hp _ ?_⟩
   refine ⟨?_, fun b hb _ => ?_⟩
   ·simp [Lib.bytesWorld, World.freeze, World.alloc, World.drew, Amb.at]
   ·simp [Lib.bytesWorld, World.freeze, World.alloc, World.drew, Amb.at, Array.getElem?_modify, Array.getElem?_push]
    rw [if_neg (by omega), if_neg (by omega)]
 ·obtain ⟨ev, h1, h2⟩ := E.syn
  refine Calls.mono (Proofs.Any.strconv_ParseUint_10_at32_syntax Proofs.Tryz.laysPu14 s (by omega) hp ev (A.at h m) (cell_hget h1) h2) ?_
  rintro e w' ⟨N, rfl, _, _, hB⟩
  obtain ⟨e1, x⟩ := below_at hB
  exact ⟨_, rfl, w'.heap, w'.drawn, e1, H1 (fun u hu => by rw [hp] at hu; cases hu) _ _ _ _ x⟩
 ·obtain ⟨ev, h1, h2⟩ := E.rng
  refine Calls.mono (Proofs.Any.strconv_ParseUint_10_at32_range Proofs.Tryz.laysPu14 s (by omega) hp ev (A.at h m) (cell_hget h1) h2) ?_
  rintro e w' ⟨N, rfl, _, _, hB⟩
  obtain ⟨e1, x⟩ := below_at hB
  exact ⟨_, rfl, w'.heap, w'.drawn, e1, H1 (fun u hu => by rw [hp] at hu; cases hu) _ _ _ _ x⟩
/-! ### file, number -/
theorem file_ok {A : Amb} {h : Heap} {nm : ByteArray} {n : Nat} {R : Value → Heap → Prop} (E : Evn h) (hn : n ≤ 4294967295) (hnm : nm.size ≤ 1099511627776) (H : ∀ h', Ext h h' → R (.string (fnB nm n)) h') :
  HCalls A P f_wal_file #[.string nm, .int .i64 n] h R := by
 refine ok_wal_file ?_
 unfold F_wal_file
 refine Itoa_ok E.tab (by omega) (by omega) fun h1 x1 => ⟨_, rfl, ?_⟩
 have e1 : Lib.itoa (n : Int) = Lib.decDigits n := Lib.itoa_nonneg n
 rw [e1]
 have hl : (⟨(Lib.decDigits n).toArray⟩ : ByteArray).size = (Lib.decDigits n).length := by simp [ByteArray.size]
 have h20 : (Lib.decDigits n).length ≤ 20 := by rw [Lib.decDigits_length]; exact Lib.nDigits_le20 n (by omega)
 have e2 : (if ((IntKind.wrap .i64 ((8 : Int) - (((⟨(Lib.decDigits n).toArray⟩ : ByteArray).size : Nat) : Int))) : Int) > 0 then (IntKind.wrap .i64 ((8 : Int) - (((⟨(Lib.decDigits n).toArray⟩ : ByteArray).size : Nat) : Int))) else 0) = ((8 - (Lib.decDigits n).length : Nat) : Int) := by
  rw [hl, wrap_i64 (by omega) (by omega)]
  split <;> omega
 rw [e2]
 refine Repeat_ok (by omega) (by decide) fun h2 x2 => ⟨_, rfl, ?_, ?_, ?_⟩
 ·have : (strL (Lib.repeatL (bl ⟨#[48]⟩) (8 - (Lib.decDigits n).length))).size ≤ 8 := by
   rw [strL_size, Lib.repeatL_length]; simp [bl]
  rw [max_i64]; omega
 ·have : (strL (Lib.repeatL (bl ⟨#[48]⟩) (8 - (Lib.decDigits n).length))).size ≤ 8 := by
   rw [strL_size, Lib.repeatL_length]; simp [bl]
  rw [ByteArray.size_append, max_i64, hl]; omega
 ·have := H h2 (x1.trans x2)
  have e3 : fnB nm n = (nm ++ strL (Lib.repeatL (bl ⟨#[48]⟩) (8 - (Lib.decDigits n).length))) ++ ⟨(Lib.decDigits n).toArray⟩ := by
   rw [fnB, pad8, ← strL_app, ByteArray.append_assoc]; rfl
  rw [e3] at this
  exact this
/-- a file's number, or nothing -/
theorem number_ok {A : Amb} {h : Heap} {nm s : ByteArray} {R : Value → Heap → Prop} (E : Evn h) (hnm : nm.size ≤ 1099511627776) (hs : s.size ≤ 1099511627776)
  (H : ∀ h' (n : Nat), Ext h h' → (n = 0 → ∀ k : Nat, 1 ≤ k → k ≤ 99999999 → s ≠ fnB nm k) → (n ≠ 0 → n ≤ 99999999 ∧ s = fnB nm n) → R (.int .i64 n) h') :
  HCalls A P f_wal_number #[.string nm, .string s] h R := by
 refine ok_wal_number ?_
 unfold F_wal_number
 have none_ok : ∀ h', Ext h h' → (∀ k : Nat, 1 ≤ k → k ≤ 99999999 → s ≠ fnB nm k) → R (.int .i64 0) h' := fun h' x hk => H h' 0 x (fun _ => hk) (fun h => absurd rfl h)
 refine CutPrefix_ok ⟨_, _, rfl, ?_⟩
 cases hp : Lib.hasPrefix (bl s) (bl nm) with
 | false =>
  refine Join.mk fun K hK => PIf.yes rfl (hK _ _ (PIf.yes rfl (none_ok h Mod.refl fun k _ _ e => ?_)))
  subst e
  rw [fnB_bl] at hp
  unfold Lib.hasPrefix at hp
  rw [Bool.eq_false_iff] at hp
  exact hp (List.isPrefixOf_iff_prefix.2 (List.prefix_append _ _))
 | true =>
  have hpre := hp
  unfold Lib.hasPrefix at hpre
  obtain ⟨d, hd⟩ := List.isPrefixOf_iff_prefix.1 hpre
  have ht : Lib.trimPrefix (bl s) (bl nm) = d := by
   unfold Lib.trimPrefix
   rw [if_pos hp, ← hd]
   simp
  rw [ht]
  refine Join.mk fun K hK => PIf.no rfl ?_
  have bad : ∀ b : Bool, b = true → (∀ k : Nat, 1 ≤ k → k ≤ 99999999 → s ≠ fnB nm k) → K (b, ()) h := fun b hb hk => hK _ _ (PIf.yes hb (none_ok h Mod.refl hk))
  have hsz : (strL d).size = d.length := strL_size d
  by_cases h8 : d.length = 8
  ·refine hK _ _ (PIf.no (by simp [hsz, h8]) ?_)
   have hbl : bl (strL d) = d := bl_strL d
   refine Parse_ok E (by omega) (fun u hu h1 x1 => ⟨_, _, rfl, ?_⟩) (fun hu h1 n t v x1 => ⟨_, _, rfl, Join.mk fun K1 hK1 => ?_⟩)
   ·rw [hbl] at hu
    have hu32 : u ≤ 4294967295 := by
     have : Lib.parseUintB 32 d = .ok u := hu
     unfold Lib.parseUintB at this
     split at this
     ·cases this
     ·exact parse_le d 0 (by omega) this
    have hwu : IntKind.wrap .i64 (u : Int) = (u : Int) := wrap_i64 (by omega) (by omega)
    rw [hwu]
    refine Join.mk fun K1 hK1 => ?_
    refine ⟨trivial, PIf.no rfl ?_⟩
    refine file_ok (E.ext x1) hu32 hnm fun h5 x5 => ⟨_, rfl, hK1 _ _ ?_⟩
    have x05 := x1.trans x5
    refine PIf.intro (fun q => ?_) (fun q => ?_)
    ·have q : fnB nm u ≠ s := by
      intro e
      have : sEq (fnB nm u) s = true := by rw [sEq_iff]; exact decide_eq_true e
      dsimp only at q
      rw [this] at q; cases q
     refine none_ok h5 x05 fun k _ hk8 e => q ?_
     have h1 : bl s = bl nm ++ pad8 k := by rw [e, fnB_bl]
     rw [← hd] at h1
     have h2 : d = pad8 k := List.append_cancel_left h1
     rw [h2, pad8_parse (by omega)] at hu
     have : k = u := by injection hu
     rw [← this]; exact e.symm
    ·have q : fnB nm u = s := by
      have q : (!sEq (fnB nm u) s) = false := q
      have q : sEq (fnB nm u) s = true := by simpa using q
      rw [sEq_iff] at q
      exact of_decide_eq_true q
     have h1 : bl s = bl nm ++ pad8 u := by rw [← q, fnB_bl]
     rw [← hd] at h1
     have h2 : d = pad8 u := List.append_cancel_left h1
     have hu8 : u ≤ 99999999 := pad8_small (by rw [← h2]; exact h8)
     by_cases hu0 : u = 0
     ·subst hu0
      refine none_ok h5 x05 fun k hk1 _ e => ?_
      have := fnB_inj (e.symm.trans q.symm)
      omega
     ·exact H h5 u x05 (fun h => absurd h hu0) fun _ => ⟨hu8, q.symm⟩
   ·rw [hbl] at hu
    refine ⟨trivial, PIf.yes rfl (hK1 _ _ (PIf.yes rfl (none_ok h1 x1 fun k _ hk8 e => ?_)))⟩
    have h1 : bl s = bl nm ++ pad8 k := by rw [e, fnB_bl]
    rw [← hd] at h1
    have h2 : d = pad8 k := List.append_cancel_left h1
    exact hu k (by rw [h2]; exact pad8_parse (by omega))
  ·refine bad _ (by simp [hsz]; omega) fun k _ hk8 e => h8 ?_
   have h1 : bl s = bl nm ++ pad8 k := by rw [e, fnB_bl]
   rw [← hd] at h1
   rw [List.append_cancel_left h1, pad8_len hk8]
end Go.Lf.G

/-
 Rows: arguments opened (any lists), what is asked behind the call.
-/
set_option maxRecDepth 100000
set_option linter.unusedVariables false
set_option linter.unusedSimpArgs false
namespace Go.Lf.G
open Go Go.ChangeShapes Go.WideShapes Go.ChangeAt Go.RowKit Go.Proofs.YteecdmkgblonnaaGreatDoor
theorem bulk_one {H : Type} (d : DataW H) : 1 ≤ Rows.uptoBulk d := by
 cases d with
 | lit l => cases l <;> simp [Rows.uptoBulk]
 | nil => simp [Rows.uptoBulk]
 | ptr d => simp [Rows.uptoBulk]
 | slice elems spare => simp [Rows.uptoBulk]
 | agg parts => simp [Rows.uptoBulk]
 | iface t d => simp [Rows.uptoBulk]
 | map entries => simp [Rows.uptoBulk]
 | held h => simp [Rows.uptoBulk]
theorem bulk_len {H : Type} (l : List (DataW H)) : l.length ≤ Rows.uptoBulkAll l := by
 induction l with
 | nil => simp [Rows.uptoBulkAll]
 | cons x r ih => have := bulk_one x; simp only [Rows.uptoBulkAll, List.length_cons]; omega
theorem stays_all {H : Type} {enc : TypeId × Value → H} {P : Program} (hl : laidOutB P = true) {W W' : World} {sp : Nat → Bool} : ∀ {ts : List TypeId} {vs : List Value} {ds : List (DataW H)} {ps : List MemPlace},
  (ts.all fun t => P.readableRec t && decide (t < P.types.size)) = true → DataW.TrodAll enc P W 0 (fun _ => true) true ts vs ds ps → (∀ p ∈ ps, W.sameAt W' p) → (∀ p ∈ ps, sp p.block = true) → DataW.TrodAll enc P W' 0 sp true ts vs ds ps
 | [], [], [], _, _, h, _, _ => h
 | t :: ts, v :: vs, d :: ds, _, hr, ⟨p, q, h1, h2, e⟩, hs, hsp => by
  simp only [List.all_cons, Bool.and_eq_true, decide_eq_true_eq] at hr
  subst e
  exact ⟨p, q, WideElems.Trod_stays hl hr.1.1 hr.1.2 h1 (fun x hx => hs x (List.mem_append_left _ hx)) (fun x hx => hsp x (List.mem_append_left _ hx)),
   stays_all hl (by simpa using hr.2) h2 (fun x hx => hs x (List.mem_append_right _ hx)) (fun x hx => hsp x (List.mem_append_right _ hx)), rfl⟩
/-- the world of a call, in parts -/
def ambOf (W : World) : Amb := ⟨W.tape, W.os, W.output⟩
theorem row_post {H : Type} {enc : TypeId × Value → H} {P : Program} {f : Func} {s : ChangeSpec} {W : World} {args : Array Value} {ds gs : List (DataW H)} {before : List MemPlace} {tb : TypeId} {h' : Heap} {n' : Nat}
  (hW : DataW.Whole enc P f.params.toList s.vars false W args.toList ds gs before) (hvars : s.vars = []) (hres : (s.fn H (ds ++ gs)).results = [.lit (.bool true)]) (hargs : (s.fn H (ds ++ gs)).args = ds) (hvs : (s.fn H (ds ++ gs)).vars = [])
  (hl : laidOutB P = true) (hp : (f.params.toList.all fun t => P.readableRec t && decide (t < P.types.size)) = true) (hr : f.resultTypes = #[tb]) (hb : P.underlying tb = some .bool) (x : Ext W.heap h') :
  s.post enc P f false true false false W args (.bool true) ((ambOf W).at h' n') := by
 have hlt := fun p (hp : p ∈ before) => hW.lt p hp
 have hsame : ∀ p ∈ before, W.sameAt ((ambOf W).at h' n') p := fun p hp => by
  have hb2 : h'[p.block]? = W.heap[p.block]? := x.get _ (hlt p hp) (fun h => h)
  cases p with
  | cell b off =>
   show hget h' ⟨b, off, none⟩ = hget W.heap ⟨b, off, none⟩
   exact hget_blk hb2
  | map b => exact hb2
 obtain ⟨p, q, hA, hV, rfl, hz, hn⟩ := id hW
 rw [hvars] at hV
 have hgs : gs = [] ∧ q = [] := by
  cases gs with
  | nil => exact ⟨rfl, hV⟩
  | cons _ _ => exact hV.elim
 obtain ⟨rfl, rfl⟩ := hgs
 refine ⟨ds, [], p ++ [], [], p, [], hW, ?_, ?_, ?_, ?_, fun h => by cases h⟩
 ·rw [hres, hr]
  exact ⟨[], [], ⟨1, by simp [DataW.trod, Value.cells, hb]⟩, rfl, rfl⟩
 ·rw [hargs]
  exact stays_all hl hp hA (fun y hy => hsame y (List.mem_append_left _ hy)) (fun y hy => by simpa using hlt y (List.mem_append_left _ hy))
 ·rw [hvars, hvs]; rfl
 ·refine ⟨rfl, rfl, fun i hi => ?_⟩
  have e : ((ambOf W).at h' n').heap[i]? = W.heap[i]? := x.get i hi (fun h => h)
  rw [e]
  cases h1 : W.heap[i]? with
  | none => trivial
  | some o =>
   cases o with
   | cells c t fr => exact ⟨rfl, rfl, rfl, fun _ _ => rfl⟩
   | map es clock => exact .inr ⟨rfl, rfl⟩
   | _ => rfl
theorem laid : laidOutB P = true := by kernel_rfl
section
variable {H : Type} {enc : TypeId × Value → H} {w : World} {base : Nat} {spare : Nat → Bool} {held : Bool}
/-- a list's elements opened, each beside its datum -/
theorem open_sl {α : Type} {E : Enc α} {Q : α → DataW H → Prop} {tS t : TypeId} (hT : P.underlying tS = some (.slice t)) (hc : P.cellsOf t = E.w)
  (hel : ∀ n cs x, DataW.trod enc P w base spare held n t cs = some x → ∃ y : α, cs = E.enc y ∧ Q y x.1) {n : Nat} {p : Option Addr} {len cap : Nat} {x : DataW H × List MemPlace} (h : DataW.trod enc P w base spare held n tS [.slice p len cap] = some x) :
  ∃ (l : List α) (ds : List (DataW H)), View E w.heap ⟨p, len, cap⟩ l ∧ l.length = ds.length ∧ (∀ (i : Nat) y d, l[i]? = some y → ds[i]? = some d → Q y d) ∧ Rows.uptoBulkAll ds + 1 ≤ Rows.uptoBulk x.1 := by
 rcases Deep.open_slice hT h with ⟨h0, rfl⟩ | ⟨a, len', cap', m, n', D, Pl, h0, _, hl, _, hm, rfl, hx⟩
 ·simp at h0
  obtain ⟨rfl, rfl, rfl⟩ := h0
  exact ⟨[], [], View.nil, rfl, by simp, by simp [Rows.uptoBulk, Rows.uptoBulkAll]⟩
 ·simp at h0
  obtain ⟨rfl, rfl, rfl⟩ := h0
  have hlm : len ≤ m := by rw [hm]; split <;> omega
  rw [hc] at hx
  have : ∀ i, i < len → ∃ y : α, Cells w.heap (a.add (i * E.w)) (E.enc y) ∧ Q y (D i) := fun i hi => by
   obtain ⟨cs', h1, h2⟩ := hx i (by omega)
   obtain ⟨y, rfl, hq⟩ := hel _ _ _ h2
   obtain ⟨_, hlen, hcc⟩ := World.cells?_some h1
   refine ⟨y, fun j v hj => ?_, hq⟩
   have hj3 : j < E.w := by rw [← E.len y]; exact (List.getElem?_eq_some_iff.1 hj).1
   have := hcc j hj3
   rw [hj] at this
   exact this
  by_cases hlen : len = 0
  ·subst hlen
   refine ⟨[], [], ⟨rfl, hl, fun i y hi => by simp at hi⟩, rfl, by simp, ?_⟩
   simp [Rows.uptoBulk, Rows.uptoBulkAll]
  ·obtain ⟨y0, _⟩ := this 0 (by omega)
   have : ∃ f : Nat → α, ∀ i, i < len → Cells w.heap (a.add (i * E.w)) (E.enc (f i)) ∧ Q (f i) (D i) :=
    ⟨fun i => if hi : i < len then Classical.choose (this i hi) else y0, fun i hi => by simp only [dif_pos hi]; exact Classical.choose_spec (this i hi)⟩
   obtain ⟨f, hf⟩ := this
   refine ⟨(List.range len).map f, (List.range len).map D, ⟨by simp, hl, fun i y hi => ?_⟩, by simp, fun i y d h1 h2 => ?_, ?_⟩
   ·simp only [List.getElem?_map] at hi
    by_cases hil : i < len
    ·simp [hil] at hi
     subst hi
     exact ⟨a, rfl, (hf i hil).1⟩
    ·simp [Nat.not_lt.1 hil] at hi
   ·simp only [List.getElem?_map] at h1 h2
    by_cases hil : i < len
    ·simp [hil] at h1 h2
     subst h1; subst h2
     exact (hf i hil).2
    ·simp [Nat.not_lt.1 hil] at h1
   ·simp only [Rows.uptoBulk]
    omega
end
theorem mem_bulk {H α : Type} {Q : α → DataW H → Prop} {l : List α} {ds : List (DataW H)} (hl : l.length = ds.length) (hq : ∀ (i : Nat) y d, l[i]? = some y → ds[i]? = some d → Q y d) {y : α} (hy : y ∈ l) : ∃ d ∈ ds, Q y d := by
 obtain ⟨i, hi, rfl⟩ := List.getElem_of_mem hy
 have hi2 : i < ds.length := by omega
 exact ⟨ds[i], List.getElem_mem hi2, hq i _ _ (List.getElem?_eq_getElem hi) (List.getElem?_eq_getElem hi2)⟩
theorem P_int : P.underlying t_int = some (.int .i64) := by kernel_rfl
theorem P_bool : P.underlying t_bool = some .bool := by kernel_rfl
theorem P_str' : P.underlying t_string = some .string := by kernel_rfl
theorem P_slint : P.underlying t_sl_int = some (.slice t_int) := by kernel_rfl
theorem P_cs : P.cellsOf t_string = 1 := by kernel_rfl
theorem P_ci : P.cellsOf t_int = 1 := by kernel_rfl
theorem wf_i64 {n : Int} (h : (Lit.int .i64 n).wf = true) : -9223372036854775808 ≤ n ∧ n ≤ 9223372036854775807 := by
 simp [Lit.wf, IntKind.min, IntKind.max, IntKind.bits, IntKind.signed] at h
 omega
section
variable {H : Type} {enc : TypeId × Value → H} {w : World} {base : Nat} {spare : Nat → Bool} {held : Bool}
theorem open_ints {n : Nat} {p : Option Addr} {len cap : Nat} {x : DataW H × List MemPlace} (h : DataW.trod enc P w base spare held n t_sl_int [.slice p len cap] = some x) :
  ∃ l : List Int, View IntE w.heap ⟨p, len, cap⟩ l ∧ l.length + 1 ≤ Rows.uptoBulk x.1 ∧ ∀ n ∈ l, -9223372036854775808 ≤ n ∧ n ≤ 9223372036854775807 := by
 obtain ⟨l, ds, V, hl, hq, hb⟩ := open_sl (E := IntE) (Q := fun y d => -9223372036854775808 ≤ y ∧ y ≤ 9223372036854775807) P_slint P_ci (fun n cs x hx => by
  obtain ⟨s, h1, h2, h3⟩ := DataW.trod_int P_int hx
  exact ⟨s, h1, wf_i64 h3⟩) h
 have := bulk_len ds
 exact ⟨l, V, by omega, fun n hn => by obtain ⟨_, _, h⟩ := mem_bulk hl hq hn; exact h⟩
end
end Go.Lf.G

/-
 A filter of keys, bit by bit (chapter 6): plain law.
-/
set_option maxRecDepth 100000
set_option linter.unusedVariables false
set_option linter.unusedSimpArgs false
namespace Go.Lf
open Go
/-- the i-th place of a key, of m bytes -/
def xK (k : ByteArray) (i : Nat) : Nat := (hash1 k + i * hash2 k) % 4294967296
def prb (k : ByteArray) (m i : Nat) : Nat := xK k i % (8 * m)
def bitF (f : List UInt8) (a : Nat) : Bool := ((f[a / 8]?).getD 0).toNat.testBit (a % 8)
def setF (f : List UInt8) (a : Nat) : List UInt8 := f.set (a / 8) (byteN (((f[a / 8]?).getD 0).toNat ||| 2 ^ (a % 8)))
theorem setF_len (f : List UInt8) (a : Nat) : (setF f a).length = f.length := by simp [setF]
theorem or_lt {c j : Nat} (hc : c < 256) (hj : j < 8) : c ||| 2 ^ j < 256 := by
 have h1 : 2 ^ j < 2 ^ 8 := Nat.pow_lt_pow_right (by decide) hj
 have : c ||| 2 ^ j < 2 ^ 8 := Nat.or_lt_two_pow (by simpa using hc) h1
 simpa using this
theorem bit_set {f : List UInt8} {a : Nat} (ha : a / 8 < f.length) (x : Nat) : bitF (setF f a) x = (bitF f x || decide (x = a)) := by
 unfold bitF setF
 have hj : a % 8 < 8 := Nat.mod_lt _ (by decide)
 by_cases hx : x / 8 = a / 8
 ·rw [hx, List.getElem?_set_self ha, Option.getD_some, byteN_nat (or_lt (UInt8.toNat_lt _) hj), Nat.testBit_or, Nat.testBit_two_pow]
  congr 1
  rw [Bool.eq_iff_iff, decide_eq_true_iff, decide_eq_true_iff]
  omega
 ·rw [List.getElem?_set_ne (by omega)]
  have : x ≠ a := fun e => hx (by rw [e])
  simp [this]
def putK (m : Nat) (f : List UInt8) (k : ByteArray) : List UInt8 := (List.range 4).foldl (fun f i => setF f (prb k m i)) f
theorem prb_lt {k : ByteArray} {m i : Nat} (hm : 1 ≤ m) : prb k m i < 8 * m := Nat.mod_lt _ (by omega)
theorem fold_set {k : ByteArray} {m : Nat} (hm : 1 ≤ m) : ∀ (l : List Nat) (f : List UInt8), f.length = m → (l.foldl (fun f i => setF f (prb k m i)) f).length = m ∧ ∀ x, bitF (l.foldl (fun f i => setF f (prb k m i)) f) x = (bitF f x || l.any fun i => decide (x = prb k m i))
 | [], f, h => ⟨h, fun x => by simp⟩
 | i :: l, f, h => by
  have h1 : prb k m i / 8 < f.length := by have := prb_lt (k := k) (i := i) hm; omega
  obtain ⟨h2, h3⟩ := fold_set (k := k) hm l (setF f (prb k m i)) (by rw [setF_len, h])
  refine ⟨h2, fun x => ?_⟩
  rw [List.foldl_cons, h3, bit_set h1, List.any_cons, Bool.or_assoc]
theorem putK_len {k : ByteArray} {m : Nat} (hm : 1 ≤ m) {f : List UInt8} (h : f.length = m) : (putK m f k).length = m := (fold_set hm _ f h).1
theorem putK_bit {k : ByteArray} {m : Nat} (hm : 1 ≤ m) {f : List UInt8} (h : f.length = m) {x : Nat} (hx : bitF f x = true) : bitF (putK m f k) x = true := by
 unfold putK; rw [(fold_set hm _ f h).2, hx]; rfl
theorem putK_has {k : ByteArray} {m : Nat} (hm : 1 ≤ m) {f : List UInt8} (h : f.length = m) {i : Nat} (hi : i < 4) : bitF (putK m f k) (prb k m i) = true := by
 unfold putK
 rw [(fold_set hm _ f h).2, Bool.or_eq_true]
 right
 rw [List.any_eq_true]
 exact ⟨i, List.mem_range.2 hi, by simp⟩
def zerosF (m : Nat) : List UInt8 := List.replicate m 0
def makeF (ks : List ByteArray) (m : Nat) : List UInt8 := ks.foldl (putK m) (zerosF m)
def allF (f : List UInt8) (k : ByteArray) : Bool := (List.range 4).all fun i => bitF f (prb k f.length i)
def hasF (f : List UInt8) (k : ByteArray) : Bool := decide (f ≠ []) && decide (f.length ≤ 8192) && allF f k
theorem make_spec {m : Nat} (hm : 1 ≤ m) : ∀ (ks : List ByteArray) (f : List UInt8), f.length = m → (ks.foldl (putK m) f).length = m ∧ (∀ x, bitF f x = true → bitF (ks.foldl (putK m) f) x = true) ∧ ∀ k ∈ ks, ∀ i, i < 4 → bitF (ks.foldl (putK m) f) (prb k m i) = true
 | [], f, h => ⟨h, fun x hx => hx, fun k hk => by cases hk⟩
 | k :: ks, f, h => by
  have h1 := putK_len (k := k) hm h
  obtain ⟨h2, h3, h4⟩ := make_spec hm ks (putK m f k) h1
  refine ⟨h2, fun x hx => h3 x (putK_bit hm h hx), fun k' hk' i hi => ?_⟩
  rcases List.mem_cons.1 hk' with rfl | hk'
  ·exact h3 _ (putK_has hm h hi)
  ·exact h4 k' hk' i hi
theorem has_make {ks : List ByteArray} {m : Nat} (hm : 1 ≤ m) (h8 : m ≤ 8192) {k : ByteArray} (hk : k ∈ ks) : hasF (makeF ks m) k = true := by
 obtain ⟨h1, _, h3⟩ := make_spec hm ks (zerosF m) (by simp [zerosF])
 have h1 : (makeF ks m).length = m := h1
 unfold hasF allF
 rw [h1, Bool.and_eq_true, Bool.and_eq_true, decide_eq_true_iff, decide_eq_true_iff, List.all_eq_true]
 refine ⟨⟨fun e => ?_, h8⟩, fun i hi => h3 k hk i (List.mem_range.1 hi)⟩
 rw [e] at h1; simp at h1; omega
theorem make_len {ks : List ByteArray} {m : Nat} (hm : 1 ≤ m) : (makeF ks m).length = m := (make_spec hm ks (zerosF m) (by simp [zerosF])).1
end Go.Lf

/-
 Rows made by make; a table's filter, bit by bit.
-/
set_option maxRecDepth 100000
set_option linter.unusedVariables false
set_option linter.unusedSimpArgs false
namespace Go.Lf
open Go
theorem made_one (v : Value) (n : Nat) : (madeCells #[v] n).toList = List.replicate n v := by
 apply List.ext_getElem
 ·simp [madeCells]
 ·intro i h1 h2
  simp [madeCells, Nat.mod_one]
theorem rep_flat {α : Type} {E : Enc α} {x0 : α} {v : Value} (hx : E.enc x0 = [v]) : ∀ n, (List.replicate n x0).flatMap E.enc = List.replicate n v
 | 0 => rfl
 | n + 1 => by rw [List.replicate_succ, List.replicate_succ, List.flatMap_cons, hx, rep_flat hx n]; rfl
theorem make_ok {A : Amb} {P : Program} {α : Type} {E : Enc α} {x0 : α} {v z : Value} {t T : TypeId} {B : Nat} (ht : P.underlying t = some (.slice T)) (hi : (P.info? T).map (fun i => (i.zero, i.size, i.bytes)) = some (some z, 1, B))
  (hz : z.cells = #[v]) (hw : E.w = 1) (hx : E.enc x0 = [v]) {h : Heap} {n : Nat} {kl kc : IntKind} (hn : n * B ≤ 140737488355328) (hm : n ≤ maxLen) {K : Sl → Heap → Prop}
  (H : ∀ h', Own E T h' ⟨some ⟨h.size, 0, none⟩, n, n⟩ (List.replicate n x0) → Ext h h' → h'.size = h.size + 1 → K ⟨some ⟨h.size, 0, none⟩, n, n⟩ h') :
  RunK A P (Instr.makeSlice t (.int kl (n : Int)) (.int kc (n : Int))) h fun v h' => ∃ s : Sl, v = .slice s.p s.len s.cap ∧ K s h' := by
 intro d
 cases hi0 : P.info? T with
 | none => rw [hi0] at hi; simp at hi
 | some i =>
  rw [hi0] at hi
  simp only [Option.map_some, Option.some.injEq, Prod.mk.injEq] at hi
  obtain ⟨h1, h2, h3⟩ := hi
  have hB : ((i.bytes : Nat) : Int) * ((n : Nat) : Int) ≤ 281474976710656 := by
   rw [h3, ← Int.natCast_mul, Nat.mul_comm]; omega
  have hr := run_make (P := P) (A.at h d) t T i z ht hi0 h1 kl kc (n : Int) (n : Int) (by omega) (Int.le_refl _) hB (by simp only [maxLen] at hm; omega)
  simp only [Int.toNat_natCast, h2, Nat.mul_one, hz] at hr
  refine ⟨_, h.push (.cells (madeCells #[v] n) T), d, hr, ⟨some ⟨h.size, 0, none⟩, n, n⟩, rfl, H _ ⟨by simp, .inr ⟨h.size, madeCells #[v] n, rfl, by simp, Nat.le_refl _, hm, by simp [size_madeCells, hw], ?_⟩⟩ (Mod.push h _) (by simp)⟩
  show (madeCells #[v] n).toList.take (n * E.w) = _
  rw [made_one, hw, Nat.mul_one, List.take_of_length_le (by simp), rep_flat hx]
/-! ### a filter's places, as the program reckons them -/
theorem eight_int {m : Nat} (h : m ≤ 8192) : IntKind.wrap .u32 (IntKind.wrap .i64 ((8 : Int) * ((m : Nat) : Int))) = ((8 * m : Nat) : Int) := by
 rw [show (8 : Int) * ((m : Nat) : Int) = ((8 * m : Nat) : Int) by omega, wrap_nat (by omega), wrap_u32, Nat.mod_eq_of_lt (by omega)]
theorem xK_lt (k : ByteArray) (i : Nat) : xK k i < 4294967296 := Nat.mod_lt _ (by decide)
theorem xK_next (k : ByteArray) (i : Nat) : IntKind.wrap .u32 (((xK k i : Nat) : Int) + ((hash2 k : Nat) : Int)) = ((xK k (i + 1) : Nat) : Int) := by
 rw [← Int.natCast_add, wrap_u32]
 congr 1
 unfold xK
 rw [Nat.mod_add_mod, Nat.add_mul, Nat.one_mul, Nat.add_assoc]
theorem xK_zero (k : ByteArray) : xK k 0 = hash1 k := by unfold xK; rw [Nat.zero_mul, Nat.add_zero, Nat.mod_eq_of_lt (hash1_lt k)]
theorem tm_int (x m : Nat) : ((x : Nat) : Int).tmod ((m : Nat) : Int) = ((x % m : Nat) : Int) := (Int.ofNat_tmod x m).symm
theorem td8_int (x : Nat) : ((x : Nat) : Int).tdiv (8 : Int) = ((x / 8 : Nat) : Int) := (Int.ofNat_tdiv x 8).symm
theorem tm8_int (x : Nat) : ((x : Nat) : Int).tmod (8 : Int) = ((x % 8 : Nat) : Int) := (Int.ofNat_tmod x 8).symm
theorem min8_int (x : Nat) : min (((x % 8 : Nat) : Int).toNat) (IntKind.bits .u8) = x % 8 := by
 rw [Int.toNat_natCast]
 show min (x % 8) 8 = _
 omega
theorem bit_int {c j : Nat} (hc : c < 256) : (bAnd .u8 (((c : Nat) : Int).fdiv ((2 : Int) ^ j)) (1 : Int) == (0 : Int)) = !(c.testBit j) := by
 have h1 : c / 2 ^ j < 256 := Nat.lt_of_le_of_lt (Nat.div_le_self _ _) hc
 rw [fdiv_nat, show (1 : Int) = ((1 : Nat) : Int) from rfl, and_u8 h1 (by decide), Nat.and_one_is_mod, Nat.testBit_eq_decide_div_mod_eq]
 generalize c / 2 ^ j = y
 rcases Nat.mod_two_eq_zero_or_one y with h | h <;> rw [h] <;> rfl
theorem or_int {c j : Nat} (hc : c < 256) (hj : j < 8) : bOr .u8 ((c : Nat) : Int) (IntKind.wrap .u8 ((1 : Int) * ((2 : Int) ^ j))) = ((c ||| 2 ^ j : Nat) : Int) := by
 have h1 : 2 ^ j < 256 := by have : 2 ^ j < 2 ^ 8 := Nat.pow_lt_pow_right (by decide) hj; simpa using this
 have e : (1 : Int) * ((2 : Int) ^ j) = ((2 ^ j : Nat) : Int) := by rw [Int.one_mul, Int.natCast_pow]; rfl
 rw [e, wrap_u8, Nat.mod_eq_of_lt h1, or_u8 hc h1]
end Go.Lf

/-
 Contracts: a key's hash; filters (chapter 6).
-/
set_option maxRecDepth 100000
set_option linter.unusedVariables false
set_option linter.unusedSimpArgs false
namespace Go.Lf.G
open Go
/-! ### hash -/
theorem bytes_get {k : ByteArray} {i : Nat} (hi : i < k.size) : ∃ c, k.data.toList[i]? = some c := by
 have : i < k.data.toList.length := by simpa using hi
 exact ⟨_, List.getElem?_eq_getElem this⟩
theorem Hash_ok {A : Amb} {h : Heap} {key : ByteArray} {R : Value → Heap → Prop} (hk : key.size ≤ 1099511627776) (H : R (.tuple #[.int .u32 (hash1 key : Int), .int .u32 (hash2 key : Int)]) h) : HCalls A P f_bloom_Hash #[.string key] h R := by
 refine ok_bloom_Hash ?_
 unfold F_bloom_Hash
 refine Loop.rule (fun m x hh => ∃ i : Nat, x = (((hashL (key.data.toList.take i)).1 : Int), ((hashL (key.data.toList.take i)).2 : Int), (i : Int), ()) ∧ hh = h ∧ m = key.size - i ∧ i ≤ key.size) ?_ ⟨0, rfl, rfl, rfl, by omega⟩
 rintro K m _ hh ⟨i, rfl, e, rfl, hi⟩ hK
 subst e
 obtain ⟨l1, l2⟩ := hashL_lt (key.data.toList.take i)
 refine PIf.intro (fun hq => ?_) (fun hq => ?_)
 ·have hil : i < key.size := by simpa using hq
  obtain ⟨c, hc⟩ := bytes_get hil
  have hc256 : c.toNat < 256 := c.toNat_lt
  refine ⟨⟨by dsimp only; omega, by dsimp only; omega⟩, ⟨by dsimp only; omega, by dsimp only; omega⟩, ?_⟩
  dsimp only
  rw [sAt_nat hc, stepA l1 hc256, stepB l2 hc256, wrap_succ (by omega)]
  refine hK (key.size - (i + 1)) _ _ (by omega) ⟨i + 1, ?_, rfl, rfl, hil⟩
  rw [List.take_add_one, hc, Option.toList_some, hashL_snoc]
 ·have hil : i = key.size := by simp at hq; omega
  have e : key.data.toList.take i = key.data.toList := List.take_of_length_le (by simp [hil])
  dsimp only
  rw [e] at l1 l2 ⊢
  have : bOr .u32 (((hashL key.data.toList).2 : Nat) : Int) (1 : Int) = ((hash2 key : Nat) : Int) := or_u32 l2 (b := 1) (by decide)
  rw [this]
  exact H
/-! ### has -/
theorem sEq_nil {f : ByteArray} : sEq f (⟨#[]⟩ : ByteArray) = decide (bl f = []) := by
 rw [Bool.eq_iff_iff, sEq_iff]
 constructor
 ·intro h
  have h := of_decide_eq_true h
  subst h; rfl
 ·intro h
  have h := of_decide_eq_true h
  cases f with
  | mk d =>
   have : d = #[] := by apply Array.toList_inj.1; exact h
   rw [this]; rfl
theorem bl_get {f : ByteArray} {i : Nat} {c : UInt8} (h : (bl f)[i]? = some c) : f.data.toList[i]? = some c := h
theorem Has_ok {A : Amb} {h : Heap} {f key : ByteArray} {R : Value → Heap → Prop} (hk : key.size ≤ 1099511627776) (H : R (.bool (hasF (bl f) key)) h) : HCalls A P f_bloom_Has #[.string f, .string key] h R := by
 refine ok_bloom_Has ?_
 unfold F_bloom_Has
 refine Join.mk fun K hK => ?_
 have hsz := bl_size f
 refine PIf.intro (fun hq => ?_) (fun hq => ?_)
 ·refine hK _ _ (PIf.yes rfl ?_)
  rw [sEq_nil, decide_eq_true_iff] at hq
  rw [hq] at H
  exact H
 ·refine hK _ _ ?_
  rw [sEq_nil, decide_eq_false_iff_not] at hq
  refine PIf.intro (fun hl => ?_) (fun hl => ?_)
  ·have hl' : ¬ (bl f).length ≤ 8192 := by simp at hl; omega
   have : hasF (bl f) key = false := by unfold hasF; rw [decide_eq_false hl', Bool.and_false, Bool.false_and]
   rw [this] at H
   exact H
  ·have hl' : f.size ≤ 8192 := by simp at hl; omega
   have hpos : 1 ≤ f.size := by
    rw [← hsz]
    exact List.length_pos_iff.2 hq
   refine Hash_ok hk ⟨_, _, rfl, ?_⟩
   refine Loop.rule (fun m x hh => ∃ i : Nat, x = (((xK key i : Nat) : Int), (i : Int), ()) ∧ hh = h ∧ m = 4 - i ∧ i ≤ 4 ∧ ∀ j, j < i → bitF (bl f) (prb key f.size j) = true) ?_ ⟨0, by rw [xK_zero]; rfl, rfl, rfl, by omega, fun j hj => by omega⟩
   rintro K1 m _ hh ⟨i, rfl, e, rfl, hi, hall⟩ hK1
   subst e
   dsimp only
   refine PIf.intro (fun hq1 => ?_) (fun hq1 => ?_)
   ·have hi4 : i < 4 := by simp at hq1; omega
    have hlt : prb key f.size i < 8 * f.size := prb_lt hpos
    have hx := xK_lt key i
    rw [eight_int hl', tm_int]
    have hp : xK key i % (8 * f.size) = prb key f.size i := rfl
    rw [hp, td8_int, tm8_int, min8_int, wrap_u32, Nat.mod_eq_of_lt (show prb key f.size i / 8 < 4294967296 by omega)]
    have hb8 : prb key f.size i / 8 < (bl f).length := by rw [hsz]; omega
    have hc : (bl f)[prb key f.size i / 8]? = some (bl f)[prb key f.size i / 8] := List.getElem?_eq_getElem hb8
    obtain ⟨c, hc⟩ : ∃ c, (bl f)[prb key f.size i / 8]? = some c := ⟨_, hc⟩
    rw [sAt_nat (bl_get hc), bit_int c.toNat_lt]
    have hbit : bitF (bl f) (prb key f.size i) = c.toNat.testBit (prb key f.size i % 8) := by unfold bitF; rw [hc]; rfl
    refine ⟨by omega, ⟨by omega, by omega⟩, by omega, ?_⟩
    rw [← hbit]
    refine PIf.intro (fun hb => ?_) (fun hb => ?_)
    ·have hb : bitF (bl f) (prb key f.size i) = false := by simpa using hb
     have : hasF (bl f) key = false := by
      unfold hasF allF
      rw [hsz]
      have : ((List.range 4).all fun i => bitF (bl f) (prb key f.size i)) = false := by
       rw [List.all_eq_false]
       exact ⟨i, List.mem_range.2 hi4, by simp [hb]⟩
      simp [this]
     rw [this] at H
     exact H
    ·have hb : bitF (bl f) (prb key f.size i) = true := by simpa using hb
     rw [xK_next, wrap_succ (by omega)]
     refine hK1 (4 - (i + 1)) _ _ (by omega) ⟨i + 1, rfl, rfl, rfl, hi4, fun j hj => ?_⟩
     by_cases hji : j = i
     ·subst hji; exact hb
     ·exact hall j (by omega)
   ·have hi4 : i = 4 := by simp at hq1; omega
    have : hasF (bl f) key = true := by
     unfold hasF allF
     rw [hsz, Bool.and_eq_true, Bool.and_eq_true, decide_eq_true_iff, decide_eq_true_iff, List.all_eq_true]
     exact ⟨⟨hq, hl'⟩, fun j hj => hall j (by rw [hi4]; exact List.mem_range.1 hj)⟩
    rw [this] at H
    exact H
/-! ### make -/
theorem info_u8 : (P.info? t_uint8).map (fun i => (i.zero, i.size, i.bytes)) = some (some (.int .u8 0), 1, 1) := by kernel_rfl
theorem und_sl_u8 : P.underlying t_sl_uint8 = some (.slice t_uint8) := by kernel_rfl
theorem und_u8 : P.underlying t_uint8 = some (.int .u8) := by kernel_rfl
theorem und_str : P.underlying t_string = some .string := by kernel_rfl
theorem Make_ok {A : Amb} {h : Heap} {s : Sl} {ks : List ByteArray} {m : Nat} {R : Value → Heap → Prop} (hv : View StrE h s ks) (hkl : ∀ k ∈ ks, k.size ≤ 1099511627776) (hm : 1 ≤ m) (h8 : m ≤ 8192) (hkm : ks.length ≤ 1099511627776) (hb : ∀ b, s.blk = some b → b < h.size)
  (H : ∀ h', Ext h h' → R (.tuple #[.string (strL (makeF ks m)), .int .i64 0]) h') : HCalls A P f_bloom_Make #[.slice s.p s.len s.cap, .int .i64 (m : Int)] h R := by
 refine ok_bloom_Make ?_
 unfold F_bloom_Make
 refine Join.mk fun K hK => ?_
 refine PIf.no (by simp; omega) ?_
 refine hK _ _ (PIf.no (by simp; omega) ?_)
 refine make_ok (E := ByteE) (x0 := 0) (v := .int .u8 0) und_sl_u8 info_u8 rfl rfl rfl (by omega) (by simp only [maxLen]; omega) fun h1 o1 x1 hs1 => ?_
 have hrep : List.replicate m (0 : UInt8) = zerosF m := rfl
 rw [hrep] at o1
 dsimp only
 refine Loop.rule (fun n x hh => ∃ i : Nat, x = ((i : Int), ()) ∧ n = ks.length - i ∧ i ≤ ks.length ∧ Mod (fun c => c = h.size) h1 hh ∧ Own ByteE t_uint8 hh ⟨some ⟨h.size, 0, none⟩, m, m⟩ ((ks.take i).foldl (putK m) (zerosF m))) ?_ ⟨0, rfl, rfl, by omega, Mod.refl, o1⟩
 rintro K1 n _ hh ⟨i, rfl, rfl, hi, mm, oo⟩ hK1
 have hv1 : View StrE hh s ks := (hv.ext x1).mod mm fun b hbb => by have := hb b hbb; omega
 dsimp only
 refine PIf.intro (fun hq => ?_) (fun hq => ?_)
 ·have hil : i < ks.length := by rw [hv.len] at hq; simp at hq; omega
  have hki : ks[i]? = some ks[i] := List.getElem?_eq_getElem hil
  refine hv1.idx hki fun a ha hc => ?_
  refine LoadS.mk hc.str ?_
  refine Hash_ok (hkl _ (List.getElem_mem hil)) ⟨_, _, rfl, ?_⟩
  have htake : ks.take (i + 1) = ks.take i ++ [ks[i]] := by rw [List.take_add_one, hki]; rfl
  generalize ks[i] = k at hki htake
  have hlen : ((ks.take i).foldl (putK m) (zerosF m)).length = m := (make_spec hm (ks.take i) (zerosF m) (by simp [zerosF])).1
  generalize hf0 : (ks.take i).foldl (putK m) (zerosF m) = f0 at oo hlen
  refine Loop.rule (fun n x h5 => ∃ j : Nat, x = (((xK k j : Nat) : Int), (j : Int), ()) ∧ n = 4 - j ∧ j ≤ 4 ∧ Mod (fun c => c = h.size) h1 h5 ∧ Own ByteE t_uint8 h5 ⟨some ⟨h.size, 0, none⟩, m, m⟩ ((List.range j).foldl (fun f i => setF f (prb k m i)) f0)) ?_ ⟨0, by rw [xK_zero]; rfl, rfl, by omega, mm, oo⟩
  rintro K2 n _ h5 ⟨j, rfl, rfl, hj, m5, o5⟩ hK2
  dsimp only
  refine PIf.intro (fun hq1 => ?_) (fun hq1 => ?_)
  ·have hj4 : j < 4 := by simp at hq1; omega
   have hlt : prb k m j < 8 * m := prb_lt hm
   have hp : xK k j % (8 * m) = prb k m j := rfl
   rw [eight_int h8, tm_int, hp, td8_int, tm8_int, min8_int, wrap_u32, Nat.mod_eq_of_lt (show prb k m j / 8 < 4294967296 by omega)]
   have hfl : ((List.range j).foldl (fun f i => setF f (prb k m i)) f0).length = m := (fold_set hm _ f0 hlen).1
   generalize hf1 : (List.range j).foldl (fun f i => setF f (prb k m i)) f0 = f1 at o5 hfl
   have hget : f1[prb k m j / 8]? = some f1[prb k m j / 8] := List.getElem?_eq_getElem (by omega)
   obtain ⟨c, hc⟩ : ∃ c, f1[prb k m j / 8]? = some c := ⟨_, hget⟩
   refine ⟨by omega, ?_⟩
   refine o5.view.idx hc fun a1 ha1 hc1 => ?_
   rw [Int.toNat_natCast]
   refine LoadI.mk hc1.byte ⟨by omega, ?_⟩
   refine o5.view.idx hc fun a2 ha2 hc2 => ?_
   have hor := or_int c.toNat_lt (show prb k m j % 8 < 8 by omega)
   rw [hor]
   have hlt2 := or_lt c.toNat_lt (show prb k m j % 8 < 8 by omega)
   rw [xK_next, wrap_succ (by omega), ← add_zero (a2.add (prb k m j / 8 * 1))]
   refine Own.store (E := ByteE) (i := prb k m j / 8) (j := 0) (x := c) (x' := byteN (c.toNat ||| 2 ^ (prb k m j % 8))) (v := .int .u8 ((c.toNat ||| 2 ^ (prb k m j % 8) : Nat) : Int)) o5 hc (by show [Value.int .u8 _] = _; rw [byteN_nat hlt2]; rfl) (by decide) (fun h6 o6 m6 hs6 => ?_) a2 ha2
   refine hK2 (4 - (j + 1)) _ _ (by omega) ⟨j + 1, rfl, rfl, hj4, m5.trans (m6.weak fun b _ hb => ?_), ?_⟩
   ·simp [Sl.blk] at hb; exact hb.symm
   ·rw [List.range_succ, List.foldl_append, hf1, List.foldl_cons, List.foldl_nil]
    unfold setF
    rw [hc]
    exact o6
  ·have hj4 : j = 4 := by simp at hq1; omega
   subst hj4
   rw [wrap_succ (by omega)]
   refine hK1 (ks.length - (i + 1)) _ _ (by omega) ⟨i + 1, rfl, rfl, hil, m5, ?_⟩
   rw [htake, List.foldl_append, hf0]
   exact o5
 ·have hil : i = ks.length := by rw [hv.len] at hq; simp at hq; omega
  have e : ks.take i = ks := by rw [hil]; simp
  rw [e] at oo
  have hfin : ((ks.foldl (putK m) (zerosF m))) = makeF ks m := rfl
  rw [hfin] at oo
  refine bytes_str und_sl_u8 und_u8 und_str (s := ⟨some ⟨h.size, 0, none⟩, m, m⟩) (l := makeF ks m) oo.view ⟨_, rfl, ?_⟩
  exact H hh ⟨by have := x1.size; have := mm.size; omega, fun b hb _ => (mm.get b (by have := x1.size; omega) (by omega)).trans (x1.get b hb (by simp))⟩
end Go.Lf.G

/-
 Pairs as bytes, blocks of pairs, a table's bytes (chapter 7): plain law.
-/
set_option maxRecDepth 100000
set_option linter.unusedVariables false
set_option linter.unusedSimpArgs false
namespace Go.Lf
open Go
/-- a pair that may be kept -/
structure PrOk (p : Pr) : Prop where
 key : p.key.size ≠ 0
 keyMost : p.key.size ≤ 64
 valMost : p.val.size ≤ 8192
 gone : p.gone = true → p.val.size = 0
def goneN (p : Pr) : Nat := if p.gone then 0 else p.val.size + 1
def pairL (p : Pr) : List UInt8 := textL (bl p.key) ++ (putV (goneN p) ++ bl p.val)
abbrev pairsL (l : List Pr) : List UInt8 := l.flatMap pairL
theorem empty_bl {s : ByteArray} (h : s.size = 0) : bl s = [] := List.eq_nil_of_length_eq_zero (by rw [bl_size]; exact h)
theorem pair_text {p : Pr} (h : PrOk p) (t : List UInt8) : textR ⟨pairL p ++ t, false⟩ = (bl p.key, ⟨putV (goneN p) ++ bl p.val ++ t, false⟩) := by
 have h1 := h.keyMost
 have e : pairL p ++ t = textL (bl p.key) ++ (putV (goneN p) ++ bl p.val ++ t) := by simp [pairL, List.append_assoc]
 rw [e]
 exact textR_put (by rw [bl_size]; omega) _
theorem goneN_le {p : Pr} (h : PrOk p) : goneN p ≤ 8193 := by
 have := h.valMost
 unfold goneN; split <;> omega
theorem pair_int {p : Pr} (h : PrOk p) (t : List UInt8) : intR 8193 ⟨putV (goneN p) ++ bl p.val ++ t, false⟩ = (goneN p, ⟨bl p.val ++ t, false⟩) := by
 rw [List.append_assoc]
 have := goneN_le h
 exact intR_put (by omega) this _
theorem pair_take {p : Pr} (h : PrOk p) (t : List UInt8) : takeR (goneN p - 1) ⟨bl p.val ++ t, false⟩ = (bl p.val, ⟨t, false⟩) := by
 have e : goneN p - 1 = (bl p.val).length := by
  rw [bl_size]
  unfold goneN
  split
  ·rename_i hg; rw [h.gone hg]
  ·omega
 rw [e]
 exact takeR_put _ _
theorem pairL_len {p : Pr} (h : PrOk p) : 1 ≤ (pairL p).length ∧ (pairL p).length ≤ p.key.size + p.val.size + 20 := by
 have h1 := h.keyMost
 have h2 := h.valMost
 have h3 := putV_len10 (n := (bl p.key).length) (by rw [bl_size]; omega)
 have h4 := goneN_le h
 have h5 := putV_len10 (n := goneN p) (by omega)
 have h6 := h.key
 have e1 := bl_size p.key
 have e2 := bl_size p.val
 simp only [pairL, textL, List.length_append]
 omega
end Go.Lf

/-
 Contracts: pairs as bytes; batches.
-/
set_option maxRecDepth 100000
set_option linter.unusedVariables false
set_option linter.unusedSimpArgs false
namespace Go.Lf.G
open Go
theorem app_pair : appB P t_sl_api_Pair t_api_Pair PairE.w 40 = true := by kernel_rfl
theorem vBad_ok {A : Amb} {h : Heap} {b : Nat} {r : Rd} {R : Value → Heap → Prop} (hb : RdAt h b r) (H : R (.bool r.bad) h) : HCalls A P f_vary_Reader_Bad #[ptrV b] h R := by
 refine ok_vary_Reader_Bad ?_
 unfold F_vary_Reader_Bad
 refine PIf.no rfl (atI ?_)
 exact LoadB.mk (hget_lit1 hb rfl) H
theorem vText_okS {A : Amb} {h : Heap} {s : ByteArray} {R : Value → Heap → Prop} (hl : s.size ≤ 1099511627776) (H : ∀ h', Ext h h' → R (.string (strL (textL (bl s)))) h') : HCalls A P f_vary_Text #[.string s] h R := by
 have := vText_ok (A := A) (h := h) (l := bl s) (R := R) (by rw [bl_size]; exact hl) H
 rwa [strL_of] at this
theorem len_u64 {n : Nat} (h : n ≤ 1099511627776) : IntKind.wrap .u64 ((IntKind.wrap .u64 (n : Int)) + (1 : Int)) = ((n + 1 : Nat) : Int) := by
 rw [wrap_u64n (by omega), show ((n : Int) + 1) = ((n + 1 : Nat) : Int) by omega, wrap_u64n (by omega)]
theorem empty_str {s : ByteArray} (h : s.size = 0) : s = ⟨#[]⟩ := by
 have := strL_of s
 rw [← this, show s.data.toList = [] from empty_bl h]; rfl
theorem ext_cells {h h' : Heap} {b : Nat} {cs : Array Value} {T : TypeId} (x : Ext h h') (hb : h[b]? = some (.cells cs T (0, 0))) : h'[b]? = some (.cells cs T (0, 0)) := x.blk hb (fun h => h)
theorem tPair_ok {A : Amb} {h : Heap} {x : Pr} {R : Value → Heap → Prop} (ho : PrOk x) (H : ∀ h', Ext h h' → R (.string (strL (pairL x))) h') : HCalls A P f_table_pair #[x.agg] h R := by
 obtain ⟨k, v, g⟩ := x
 have hk := ho.keyMost
 have hv := ho.valMost
 have hg := ho.gone
 dsimp only at hk hv hg
 show HCalls A P f_table_pair #[.agg #[.string k, .string v, .bool g]] h R
 refine ok_table_pair ?_
 unfold F_table_pair
 refine New.mk fun h1 _ hb1 x1 hs1 => ?_
 refine LoadB.mk (hget_lit1 hb1 rfl) ?_
 have l1 := putV_len10 (n := (bl k).length) (by rw [bl_size]; omega)
 have lk := bl_size k
 have lv := bl_size v
 refine PIf.intro (fun hq => ?_) (fun hq => ?_)
 ·subst hq
  refine LoadS.mk (hget_lit hb1 rfl) ?_
  refine vText_okS (by omega) fun h2 x2 => ⟨_, rfl, ?_⟩
  refine vPut_ok (n := 0) (by omega) fun h3 x3 => ⟨_, rfl, ?_⟩
  have l2 := putV_len10 (n := 0) (by omega)
  refine ⟨by rw [strL_size, strL_size, max_i64]; simp only [textL, List.length_append]; omega, ?_⟩
  rw [strL_app]
  have e : pairL ⟨k, v, true⟩ = textL (bl k) ++ putV 0 := by
   unfold pairL goneN
   rw [empty_bl (hg rfl)]
   simp
  rw [← e]
  exact H _ ((x1.trans x2).trans x3)
 ·subst hq
  refine LoadS.mk (hget_lit hb1 rfl) ?_
  refine vText_okS (by omega) fun h2 x2 => ⟨_, rfl, ?_⟩
  have hb2 := ext_cells x2 hb1
  refine LoadS.mk (hget_lit1 hb2 rfl) ⟨hget_lit1 hb1 rfl, ?_⟩
  rw [len_u64 (by omega)]
  refine vPut_ok (by omega) fun h3 x3 => ⟨_, rfl, ?_⟩
  have hb3 := ext_cells x3 hb2
  have l2 := putV_len10 (n := v.size + 1) (by omega)
  refine ⟨by rw [strL_size, strL_size, max_i64]; simp only [textL, List.length_append]; omega, ?_⟩
  refine LoadS.mk (hget_lit1 hb3 rfl) ⟨hget_lit1 hb2 rfl, hget_lit1 hb1 rfl, ?_, ?_⟩
  ·rw [strL_app, strL_size, max_i64]; simp only [textL, List.length_append]; omega
  ·rw [strL_app]
   have e : strL (textL (bl k) ++ putV (v.size + 1)) ++ v = strL (pairL ⟨k, v, false⟩) := by
    have : v = strL (bl v) := (strL_of v).symm
    conv => lhs; arg 2; rw [this]
    rw [strL_app]
    unfold pairL goneN
    simp [List.append_assoc]
   rw [e]
   exact H _ ((x1.trans x2).trans x3)
/-- pairs behind one another, read -/
theorem key_ne {s : ByteArray} (h : s.size ≠ 0) : sEq s (⟨#[]⟩ : ByteArray) = false := by
 rw [sEq_nil, decide_eq_false_iff_not]
 intro e
 have := bl_size s
 rw [e] at this
 exact h this.symm
theorem max_pred {n : Nat} (h : n ≤ 100000) : (if ((IntKind.wrap .i64 (((n : Nat) : Int) - (1 : Int))) : Int) > 0 then (IntKind.wrap .i64 (((n : Nat) : Int) - (1 : Int))) else 0) = ((n - 1 : Nat) : Int) := by
 rw [wrap_i64 (by omega) (by omega)]
 split <;> omega
theorem pairs_len {l : List Pr} (h : ∀ x ∈ l, PrOk x) : l.length ≤ (pairsL l).length := by
 induction l with
 | nil => simp
 | cons x l ih =>
  have := (pairL_len (h x List.mem_cons_self)).1
  have := ih fun y hy => h y (List.mem_cons_of_mem _ hy)
  simp only [pairsL, List.flatMap_cons, List.length_append, List.length_cons] at this ⊢
  omega
theorem pairs_ok {A : Amb} {h : Heap} {l : List Pr} {R : Value → Heap → Prop} (ho : ∀ x ∈ l, PrOk x) (hl : (pairsL l).length < 1099511627776)
  (H : ∀ s h', Own PairE t_api_Pair h' s l → Ext h h' → (∀ b, s.blk = some b → h.size ≤ b) → R (.tuple #[.slice s.p s.len s.cap, .bool true]) h') : HCalls A P f_table_pairs #[.string (strL (pairsL l))] h R := by
 refine ok_table_pairs ?_
 unfold F_table_pairs
 refine vRead_ok fun h1 r1 x1 => ⟨_, rfl, ?_⟩
 have hpl := pairs_len ho
 refine Loop.rule (fun m x hh => ∃ (i : Nat) (s : Sl), x = (s, ()) ∧ m = l.length - i ∧ i ≤ l.length ∧ RdAt hh h.size ⟨pairsL (l.drop i), false⟩ ∧ Ext h hh ∧ Own PairE t_api_Pair hh s (l.take i) ∧ ∀ b, s.blk = some b → h.size ≤ b) ?_ ⟨0, ⟨none, 0, 0⟩, rfl, rfl, by omega, r1, x1, Own.nil, fun b hb => by simp [Sl.blk] at hb⟩
 rintro K m _ hh ⟨i, s, rfl, rfl, hi, rd, xx, oo, hs⟩ hK
 dsimp only
 refine vEnd_ok rd ⟨_, rfl, ?_⟩
 by_cases hil : i < l.length
 ·have hx : l[i]? = some l[i] := List.getElem?_eq_getElem hil
  have hmem : l[i] ∈ l := List.getElem_mem hil
  have hd : l.drop i = l[i] :: l.drop (i + 1) := List.drop_eq_getElem_cons hil
  have ht : l.take (i + 1) = l.take i ++ [l[i]] := by rw [List.take_add_one, hx]; rfl
  generalize l[i] = x at hx hmem hd ht
  have hox := ho x hmem
  have hp : pairsL (l.drop i) = pairL x ++ pairsL (l.drop (i + 1)) := by rw [hd]; rfl
  have hlen : (pairL x ++ pairsL (l.drop (i + 1))).length < 1099511627776 := by
   have e : pairsL l = pairsL (l.take i) ++ pairsL (l.drop i) := by rw [← List.flatMap_append, List.take_append_drop]
   have := congrArg List.length e
   rw [hp, List.length_append] at this
   omega
  have hlx := pairL_len hox
  rw [hp] at rd ⊢
  refine PIf.yes ?_ ?_
  ·unfold endR
   have : (pairL x ++ pairsL (l.drop (i + 1))) ≠ [] := by
    intro e
    have := congrArg List.length e
    simp only [List.length_append, List.length_nil] at this
    omega
   simp only [Bool.not_false, Bool.true_and, Bool.not_eq_true', List.isEmpty_eq_false_iff]
   exact this
  ·refine vRText_ok rd hlen fun h2 r2 m2 => ⟨_, rfl, ?_⟩
   rw [pair_text hox] at r2 ⊢
   dsimp only at r2 ⊢
   rw [strL_of]
   refine New.mk fun h5 _ hb5 x5 hs5 => ?_
   refine Store.mk hb5 (by simp) fun h6 hb6 m6 hs6 => ?_
   rw [add_mk, add_mk]
   refine Store.mk hb6 (by simp) fun h7 hb7 m7 hs7 => ?_
   refine Store.mk hb7 (by simp) fun h8 hb8 m8 hs8 => ?_
   have hbb : h.size < h2.size := by have := blk_lt r2; exact this
   have hne : h.size ≠ h2.size := by omega
   have r8 : RdAt h8 h.size ⟨putV (goneN x) ++ bl x.val ++ pairsL (l.drop (i + 1)), false⟩ := m8.blk (m7.blk (m6.blk (x5.blk r2 (fun h => h)) hne) hne) hne
   have hrl : (putV (goneN x) ++ bl x.val ++ pairsL (l.drop (i + 1))).length ≤ 1099511627776 := by
    simp only [pairL, List.length_append] at hlen ⊢; omega
   refine vInt_ok (most := 8193) r8 hrl (by decide) fun h9 r9 m9 => ⟨_, rfl, ?_⟩
   rw [pair_int hox] at r9 ⊢
   dsimp only at r9 ⊢
   have hb9 : h9[h2.size]? = some (.cells #[.string x.key, .string ⟨#[]⟩, .bool false] t_api_Pair (0, 0)) := m9.blk (by simpa using hb8) (Ne.symm hne)
   refine Join.mk fun K1 hK1 => ?_
   have hgn := goneN_le hox
   have key : ∀ h10, RdAt h10 h.size ⟨bl x.val ++ pairsL (l.drop (i + 1)), false⟩ → h10[h2.size]? = some (.cells #[.string x.key, .string ⟨#[]⟩, .bool x.gone] t_api_Pair (0, 0)) → Mod (fun b => b = h.size ∨ b = h2.size) h2 h10 → K1 () h10 := by
    intro h10 r10 hb10 m10
    refine hK1 () h10 ?_
    rw [max_pred (by omega)]
    refine vTake_ok r10 fun h11 r11 m11 => ⟨_, rfl, ?_⟩
    rw [pair_take hox] at r11 ⊢
    dsimp only at r11 ⊢
    rw [strL_of]
    have hb11 := m11.blk hb10 (Ne.symm hne)
    refine Store.mk hb11 (by simp) fun h12 hb12 m12 hs12 => ?_
    have r12 : RdAt h12 h.size ⟨pairsL (l.drop (i + 1)), false⟩ := m12.blk r11 hne
    have hb12 : h12[h2.size]? = some (.cells #[.string x.key, .string x.val, .bool x.gone] t_api_Pair (0, 0)) := by simpa using hb12
    refine Join.mk fun K2 hK2 => ?_
    refine vBad_ok r12 ⟨_, rfl, ?_⟩
    refine PIf.no rfl ?_
    refine LoadS.mk (hget_lit hb12 rfl) ?_
    refine PIf.no (key_ne hox.key) ?_
    refine LoadS.mk (hget_lit hb12 rfl) ?_
    have hkm := hox.keyMost
    refine hK2 _ _ (PIf.no (by simp; omega) ?_)
    refine LoadS.mk (hget_lit hb12 rfl) ?_
    refine LoadS.mk (hget_lit hb12 rfl) ?_
    refine LoadB.mk (hget_lit hb12 rfl) ?_
    have mA : Mod (fun b => b = h.size ∨ b = h2.size) hh h12 := by
     have a1 : Mod (fun b => b = h.size ∨ b = h2.size) hh h2 := m2.weak fun b _ hb => .inl hb
     exact ((a1.trans m10).trans (m11.weak fun b _ hb => .inl hb)).trans (m12.weak fun b _ hb => .inr hb)
    have hss : ∀ b, s.blk = some b → ¬ (b = h.size ∨ b = h2.size) := by
     intro b hb
     have hlt := oo.lt hb
     have h2le := m2.size
     rintro (rfl | rfl)
     ·exact oo.ne rd (by decide) hb
     ·omega
    refine New.append1 (E := PairE) (x := x) rfl app_pair (oo.mod mA hss) ?_ ?_ fun s' h15 o15 m15 hn15 hp15 => ?_
    ·rw [List.length_take]; omega
    ·simp only [maxLen]; rw [List.length_take]; omega
    ·rw [← ht] at o15
     have hxx : Ext h h12 := by
      refine ⟨by have := xx.size; have := mA.size; omega, fun b hb _ => ?_⟩
      have h2le := m2.size
      have := xx.size
      exact (mA.get b (by omega) (by omega)).trans (xx.get b hb (fun h => h))
     refine hK (l.length - (i + 1)) _ _ (by omega) ⟨i + 1, s', rfl, rfl, hil, ?_, ?_, o15, ?_⟩
     ·refine m15.blk r12 fun e => ?_
      have : Own PairE t_api_Pair h12 s (l.take i) := oo.mod mA hss
      exact this.ne r12 (by decide) e
     ·refine ⟨by have := hxx.size; have := m15.size; omega, fun b hb _ => ?_⟩
      have := hxx.size
      exact (m15.get b (by omega) (fun e => by have := hs b e; omega)).trans (hxx.get b hb (fun h => h))
     ·intro b hb
      rcases hn15 b hb with e | e
      ·exact hs b e
      ·have := hxx.size; omega
   have m29 : Mod (fun b => b = h.size ∨ b = h2.size) h2 h9 := by
    have a1 : Mod (fun b => b = h.size ∨ b = h2.size) h2 h5 := x5.mod
    exact (((a1.trans (m6.weak fun b _ hb => .inr hb)).trans (m7.weak fun b _ hb => .inr hb)).trans (m8.weak fun b _ hb => .inr hb)).trans (m9.weak fun b _ hb => .inl hb)
   refine PIf.intro (fun hq => ?_) (fun hq => ?_)
   ·have hg : x.gone = true := by
     unfold goneN at hq
     split at hq
     ·rename_i hg; exact hg
     ·simp at hq; omega
    refine Store.mk hb9 (by simp) fun h17 hb17 m17 hs17 => ?_
    refine key h17 (m17.blk r9 hne) (by rw [hg]; simpa using hb17) (m29.trans (m17.weak fun b _ hb => .inr hb))
   ·have hg : x.gone = false := by
     cases hg : x.gone with
     | false => rfl
     | true => unfold goneN at hq; rw [hg] at hq; simp at hq
    exact key h9 r9 (by rw [hg]; exact hb9) m29
 ·have hil : i = l.length := by omega
  have e1 : l.drop i = [] := by rw [hil]; simp
  have e2 : l.take i = l := by rw [hil]; simp
  rw [e1]
  rw [e2] at oo
  exact PIf.no rfl (H s hh oo xx hs)
end Go.Lf.G

