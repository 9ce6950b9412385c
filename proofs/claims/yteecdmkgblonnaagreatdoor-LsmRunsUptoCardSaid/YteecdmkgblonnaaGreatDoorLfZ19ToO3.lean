/-
 A store that is awake (chapter 9).
-/
import Derived.Test.YteecdmkgblonnaaGreatDoorLfZ16ToZ18
import Derived.Test.YteecdmkgblonnaaGreatDoorLfX1ToY2
import Derived.Test.YteecdmkgblonnaaGreatDoorCards
import Derived.Test.YteecdmkgblonnaaGreatDoorTie
import Derived.Deep.DeepHandedRow
import Derived.Lib.LaidTab
import Derived.Stop.LaidErr
import Derived.Test.YteecdmkgblonnaaGreatDoorLfM3ToM9
import Derived.Test.YteecdmkgblonnaaGreatDoorRows
import Derived.WalkKit
import Derived.ProofKit
import Derived.OpenShut
import Derived.JoinedCond
import Derived.Deep.Slices
import Derived.Carry
set_option linter.unusedVariables false
set_option linter.unusedSimpArgs false
set_option maxRecDepth 100000
set_option linter.unusedVariables false
set_option linter.unusedSimpArgs false
namespace Go.Lf.G
open Go
open M (Sorted findK putL putsL refAllL findLs GoodL wrongP OkL liveL atK thereK)
def D0 : Disk := ⟨fun _ => [], fun _ => [], fun _ => [], 1, 1⟩
theorem last0 : lastN D0 = ⟨1, 1, []⟩ := rfl
/-- an empty store, on a box on which other files alone lie -/
theorem disk0 {F : Fls} (hl : ∀ n, F (fnB nl n) = none) (hn : ∀ n, F (fnB nn n) = none) (ht : ∀ x, F x ≠ none → (bl x).head? ≠ some 116) : DiskOk F D0 ∧ RLim F D0 0 0 ∧ mapD D0 = [] := by
 refine ⟨⟨⟨fun n p _ _ h => ?_, fun _ _ _ _ => rfl, fun n _ _ => hl n, fun _ _ => rfl⟩, ⟨fun n p _ _ h => ?_, fun _ _ _ _ => rfl, fun n _ _ => hn n, fun _ _ => rfl⟩, fun n hn => ?_, fun n b hb => ?_, fun n x hx => ?_, fun x hx hd => absurd hd (ht x hx), by decide⟩, ⟨by decide, by decide, by decide, by decide, by decide, by decide, fun n hn => ?_⟩, rfl⟩
 ·rw [hl n] at h; cases h
 ·rw [hn n] at h; cases h
 ·rw [last0] at hn; cases hn
 ·cases hb
 ·cases hx
 ·exact absurd (tfN_head n) (ht _ hn)
section
variable {A : Amb} {B : Bud} {g h : Heap} {q : Hp} {k : Nat → Nat} {st : Db} {m : Bx} {D : Disk} {age c : Nat} {R : Value → Heap → Prop}
theorem StoreAt.on {h' : Heap} (S : StoreAt B g h q k st m D age c) (x : Ext h h') : StoreAt B g h' q k st m D age c := ⟨S.mem.on x, S.up, S.disk, S.lim, S.wt, S.hc⟩
theorem StoreAt.beside {h' : Heap} {X : Nat → Prop} (S : StoreAt B g h q k st m D age c) (x : Mod X h h') (hX : ∀ c, X c → k c = 0 ∧ g.size ≤ c) : StoreAt B g h' q k st m D age c := ⟨S.mem.beside x hX, S.up, S.disk, S.lim, S.wt, S.hc⟩
theorem StoreAt.more {c' : Nat} (S : StoreAt B g h q k st m D age c) (h1 : c ≤ c') (h2 : c' ≤ B.C) : StoreAt B g h q k st m D age c' := ⟨S.mem, S.up, S.disk, S.lim.mono (Nat.le_refl _) h1, S.wt, h2⟩
theorem StoreAt.free (S : StoreAt B g h q k st m D age c) {x : Nat} (hx : h.size ≤ x) : k x = 0 := Decidable.byContradiction fun hk => by
 have := (S.mem.own x hk).2; omega
theorem StoreAt.base (S : StoreAt B g h q k st m D age c) {x : Nat} (hx : x < g.size) : k x = 0 := Decidable.byContradiction fun hk => by
 have := (S.mem.own x hk).1; omega
/-- an empty store is opened -/
theorem start_ok {b : Nat} {Sb : Nat → Prop} (E : Evn g) (Bx0 : IsBox h b Sb m) (hx : Ext g h) (hSb : ∀ c, Sb c → g.size ≤ c) (hd : m.down = false) (hfu : m.fuel = -1) (hl : ∀ n, ff m (fnB nl n) = none) (hn : ∀ n, ff m (fnB nn n) = none) (ht : ∀ x, ff m x ≠ none → (bl x).head? ≠ some 116) (hA : 1 ≤ B.A) (hw : wtF m.files ≤ B.W0)
  (H1 : ∀ h' q' k' st' m' D', q'.b = b → StoreAt B g h' q' k' st' m' D' 1 0 → m'.fuel = -1 → mapS st' = [] → (∀ y, ¬ Mine y → ff m' y = ff m y) → Mod Sb h h' → (∀ c, k' c ≠ 0 → Sb c ∨ h.size ≤ c) → R (.tuple #[ptrV q'.d, .int .i64 0]) h') : HCalls A P f_lsm_Open #[ptrV b] h R := by
 obtain ⟨d1, d2, d3⟩ := disk0 hl hn ht
 refine LOpen_ok (B := B) E Bx0 hx hSb hd d1 d2 (Nat.zero_le _) hA (by omega) (fun hf => absurd hfu hf) fun h' q' k' st' m' D' e S sty mp oth md kk => ?_
 exact H1 h' q' k' st' m' D' e S (sty.calm hfu) (mp.trans d3) oth md kk
/-- the box is crashed -/
theorem crash_rec {ks : List Int} (S : StoreAt B g h q k st m D age c) : Rec (ff (crashB m ks)) age c (mapS st) ∧ wtF (crashB m ks).files ≤ B.W0 + age * B.K := by
 exact ⟨S.disk.recS S.lim _ (crash_to S.mem.box.good ks), Nat.le_trans wt_crash S.wt⟩
/-- opened behind a crash -/
theorem reopen_ok {b : Nat} {Sb : Nat → Prop} {mp : List Pr} (E : Evn g) (Bx0 : IsBox h b Sb m) (hx : Ext g h) (hSb : ∀ c, Sb c → g.size ≤ c) (hd : m.down = false) (hr : Rec (ff m) age c mp) (hc : c ≤ B.C) (hA : age + 1 ≤ B.A) (hw : wtF m.files ≤ B.W0 + age * B.K)
  (H0 : m.fuel ≠ -1 → ∀ h' d S' m', IsBox h' b S' m' → m'.down = true → Mod Sb h h' → (∀ c, S' c → Sb c ∨ h.size ≤ c) → RecS (ff m') (age + 1) c mp → (∀ y, ¬ Mine y → ff m' y = ff m y) → wtF m'.files ≤ B.W0 + (age + 1) * B.K → R (.tuple #[ptrV d, .int .i64 30]) h')
  (H1 : ∀ h' q' k' st' m' D', q'.b = b → StoreAt B g h' q' k' st' m' D' (age + 1) c → Stay m m' → mapS st' = mp → (∀ y, ¬ Mine y → ff m' y = ff m y) → Mod Sb h h' → (∀ c, k' c ≠ 0 → Sb c ∨ h.size ≤ c) → R (.tuple #[ptrV q'.d, .int .i64 0]) h') : HCalls A P f_lsm_Open #[ptrV b] h R := by
 obtain ⟨D, d1, d2, rfl⟩ := hr
 exact LOpen_ok (B := B) E Bx0 hx hSb hd d1 d2 hc hA hw H0 H1
end
/-! ### awake -/
abbrev ka : ByteArray := ⟨#[97]⟩
abbrev kb : ByteArray := ⟨#[98]⟩
abbrev v1 : ByteArray := ⟨#[49]⟩
abbrev v2 : ByteArray := ⟨#[50]⟩
def budA : Bud := ⟨1000, 0, 100, by decide, by decide, by decide⟩
def pA1 : Pr := ⟨ka, v1, false⟩
def pB2 : Pr := ⟨kb, v2, false⟩
def pAg : Pr := ⟨ka, ⟨#[]⟩, true⟩
theorem chk1 : checkL [pA1, pB2] = 0 := by decide
theorem chk2 : checkL [pAg] = 0 := by decide
theorem awake_get : getM (wrL (wrL [] [pA1, pB2]) [pAg]) kb = (v2, true) ∧ (getM (wrL (wrL [] [pA1, pB2]) [pAg]) ka).2 = false := by
 have s0 : Sorted ([] : List Pr) := List.Pairwise.nil
 have s1 : Sorted (wrL [] [pA1, pB2]) := wrL_sorted s0
 have e1 : findK kb (wrL (wrL [] [pA1, pB2]) [pAg]) = some pB2 := by
  rw [wrL_find kb s1]
  have : findK kb [pAg].reverse = none := by decide
  rw [this]
  show findK kb (wrL [] [pA1, pB2]) = _
  rw [wrL_find kb s0]
  have : findK kb [pA1, pB2].reverse = some pB2 := by decide
  rw [this]; rfl
 have e2 : findK ka (wrL (wrL [] [pA1, pB2]) [pAg]) = none := by
  rw [wrL_find ka s1]
  have : findK ka [pAg].reverse = some pAg := by decide
  rw [this]; rfl
 unfold getM
 rw [e1, e2]
 exact ⟨rfl, rfl⟩
theorem awake_ok {A : Amb} {h : Heap} {R : Value → Heap → Prop} (E : Evn h) (H : ∀ h', Ext h h' → R (.bool true) h') : HCalls A P f_wherrylaw09_awake #[] h R := by
 refine ok_wherrylaw09_awake ?_
 unfold F_wherrylaw09_awake
 refine bNew_ok fun b h1 Sb B1 x1 f1 => ⟨_, rfl, ?_⟩
 refine start_ok (B := budA) E B1 x1 f1 rfl rfl (fun n => rfl) (fun n => rfl) (fun x hx => absurd rfl hx) (by decide) (by decide) fun h2 q2 k2 st2 m2 D2 eb2 S2 fu2 mp2 _ md2 kk2 => ⟨_, _, rfl, ?_⟩
 have x02 : Ext h h2 := x1.then (md2.weak fun c _ hc => .inr (f1 c hc))
 refine New.mk fun h3 _ hb3 x3 s3 => ?_
 have S3 := S2.on x3
 have v3 : View PairE h3 ⟨some ⟨h2.size, 0, none⟩, 2, 2⟩ [pA1, pB2] := (Own.lit (E := PairE) (l := [pA1, pB2]) hb3 rfl (by decide)).view
 refine Write_ok (B := budA) (s := ⟨some ⟨h2.size, 0, none⟩, 2, 2⟩) E S3 (by decide) v3 (fun _ b hb => by
  have e : h2.size = b := by simpa [Sl.blk] using hb
  subst e; exact ⟨by omega, S2.free (Nat.le_refl _)⟩) (fun _ => by decide) (fun hne => absurd chk1 hne) (fun _ h' m' fe => absurd fu2 fe.fuel) (fun _ h' m' fe => absurd fu2 fe.fuel) fun _ h4 q4 k4 st4 m4 D4 ed4 eb4 S4 sty4 wr4 _ md4 kk4 => ⟨_, rfl, ?_⟩
 have mp4 := wr4.map
 rw [mp2] at mp4
 rw [← ed4]
 refine Flush_ok (B := budA) E S4 (by decide) (fun h' m' fe => absurd (sty4.calm fu2) fe.fuel) fun h5 q5 k5 st5 m5 D5 ed5 eb5 S5 sty5 _ mp5 _ _ md5 kk5 => ⟨_, rfl, ?_⟩
 refine New.mk fun h6 _ hb6 x6 s6 => ?_
 have S6 := S5.on x6
 have v6 : View PairE h6 ⟨some ⟨h5.size, 0, none⟩, 1, 1⟩ [pAg] := (Own.lit (E := PairE) (l := [pAg]) hb6 rfl (by decide)).view
 have fu5 := sty5.calm (sty4.calm fu2)
 rw [← ed5]
 refine Write_ok (B := budA) (s := ⟨some ⟨h5.size, 0, none⟩, 1, 1⟩) E S6 (by decide) v6 (fun _ b hb => by
  have e : h5.size = b := by simpa [Sl.blk] using hb
  subst e; exact ⟨by omega, S5.free (Nat.le_refl _)⟩) (fun _ => by decide) (fun hne => absurd chk2 hne) (fun _ h' m' fe => absurd fu5 fe.fuel) (fun _ h' m' fe => absurd fu5 fe.fuel) fun _ h7 q7 k7 st7 m7 D7 ed7 eb7 S7 sty7 wr7 _ md7 kk7 => ⟨_, rfl, ?_⟩
 have mp7 := wr7.map
 rw [mp5, mp4] at mp7
 have ebb : b = q7.b := by rw [eb7, eb5, eb4, eb2]
 rw [ebb]
 refine bCrash_ok (keep := ⟨none, 0, 0⟩) (ks := []) S7.mem.box View.nil fun b8 h8 S8 _ B8 md8 f8 => ⟨_, rfl, ?_⟩
 obtain ⟨rc8, wt8⟩ := crash_rec (ks := []) S7
 have x8 : Ext h h8 := S7.mem.ext.then (md8.weak fun c _ hc => .inr (S7.mem.mine (by rw [S7.mem.kb c hc]; decide)))
 refine reopen_ok (B := budA) E B8 x8 (fun c hc => by have := f8 c hc; have := S7.mem.ext.size; omega) rfl rc8 S7.hc (by decide) wt8 (fun hf => absurd rfl hf) fun h9 q9 k9 st9 m9 D9 eb9 S9 sty9 mp9 _ md9 kk9 => ⟨_, _, rfl, ?_⟩
 rw [mp7] at mp9
 obtain ⟨l1, l2, l3, l4⟩ := S9.frlen
 obtain ⟨a1, a2⟩ := awake_get
 refine Get_ok S9.mem l2 (by decide) fun h10 x10 => ⟨_, _, _, rfl, ?_⟩
 refine Get_ok (S9.mem.on x10) l2 (by decide) fun h11 x11 => ⟨_, _, _, rfl, ?_⟩
 rw [mp9, a1, a2]
 have x9 : Ext h h11 := ((S9.mem.on x10).on x11).ext
 refine PIf.yes rfl (PIf.yes rfl (PIf.yes rfl (PIf.yes rfl (PIf.yes rfl (PIf.yes rfl (PIf.yes rfl (PIf.yes ?_ (PIf.yes rfl (PIf.yes rfl ?_)))))))))
 ·show sEq v2 v2 = true
  rw [sEq_iff]; exact decide_eq_true rfl
 ·refine Check_ok (s := ⟨none, 0, 0⟩) (l := []) View.nil fun h12 x12 => ⟨_, rfl, ?_⟩
  exact H h12 (x9.trans x12)
end Go.Lf.G

/-
 What the rows list: the table that the numerals are read from, two errors; a world that holds what is listed; arguments opened.
-/
set_option maxRecDepth 100000
set_option linter.unusedVariables false
set_option linter.unusedSimpArgs false
namespace Go.Lf.G
open Go Go.ChangeShapes Go.WideShapes Go.ChangeAt Go.RowKit Go.Proofs.YteecdmkgblonnaaGreatDoor
def listed : List (String × DataW Unit) := Rows.lsmShapesRow.laid
theorem listed_eq : ∃ (x y a b : String × DataW Unit), listed = [x, y, (tabName, Lib.tabData .u64 Lib.pow10Tab), a, b] := ⟨_, _, _, _, rfl⟩
theorem g_tab : P.globalNamed tabName = some 2 := by kernel_rfl
theorem g_type : (P.globals[2]?).map (·.type) = some t_20_uint64 := by kernel_rfl
theorem P_tab : P.underlying t_20_uint64 = some (.array 20 t_uint64) := by kernel_rfl
theorem P_u64' : P.underlying t_uint64 = some (.int .u64) := by kernel_rfl
theorem c_u64 : P.cellsOf t_uint64 = 1 := by kernel_rfl
theorem c_tab : P.cellsOf t_20_uint64 = 20 := by kernel_rfl
theorem no_handles : listed.filter (fun x => x.2.handleName?.isSome) = [] := by kernel_rfl
theorem met_of {W : World} (h : laidMetH P listed W) : laidMet P listed W := by
 unfold laidMetH at h
 rw [no_handles] at h
 exact h
theorem tab_met {W : World} (h : laidMetH P listed W) : Lib.TabIs P W tabName .u64 Lib.pow10Tab := by
 have h1 := met_of h
 obtain ⟨x, y, a, b, e⟩ := listed_eq
 rw [e] at h1
 exact Lib.tabIs_of_head (rest := [a, b]) g_tab g_type P_tab P_u64' c_u64 c_tab (laidMet.tail (laidMet.tail h1))
theorem Tab_of' {W : World} (h : laidMetH P listed W) : Tab W.heap := fun A n => by
 have h1 := tab_met h
 unfold Lib.TabIs World.var? at h1 ⊢
 exact h1
/-! ### the two errors -/
def esName : String := String.ofList [Char.ofNat 42] ++ "errors.errorString"
def rngName : String := Rows.lsmShapesRow.named.getD 1 (String.ofList [])
def synName : String := Rows.lsmShapesRow.named.getD 0 (String.ofList [])
theorem rng_eq : ∃ (x y z w : String × DataW Unit) (text : List UInt8), listed = [x, y, z, (rngName, .iface esName (.ptr (.agg [.lit (.string text)]))), w] := ⟨_, _, _, _, _, rfl⟩
theorem syn_eq : ∃ (x y z w : String × DataW Unit) (text : List UInt8), listed = [x, y, z, w, (synName, .iface esName (.ptr (.agg [.lit (.string text)])))] := ⟨_, _, _, _, _, rfl⟩
theorem g_rng : P.globalNamed rngName = some 1 := by kernel_rfl
theorem g_syn : P.globalNamed synName = some 0 := by kernel_rfl
theorem gt_rng : (P.globals[1]?).map (·.type) = some t_error := by kernel_rfl
theorem gt_syn : (P.globals[0]?).map (·.type) = some t_error := by kernel_rfl
theorem P_err : ∃ ms, P.underlying t_error = some (.interface ms) := ⟨_, Proofs.Tryz.underlying153⟩
theorem row_es (u : TypeId) (h : P.typeName? 3 u = some esName) : u = t_p_errors_errorString :=
 typeName_ptr_named (nm := "errors.errorString") (by kernel_rfl) (by kernel_rfl) (by decide) u h
theorem P_pes : P.underlying t_p_errors_errorString = some (.pointer t_errors_errorString) := by kernel_rfl
theorem P_es : ∃ f : Field, P.underlying t_errors_errorString = some (.struct #[f]) ∧ f.type = t_string ∧ f.offset = 0 := ⟨_, Proofs.Tryz.underlying253, rfl, rfl⟩
theorem c_es : P.cellsOf t_errors_errorString = 1 := by kernel_rfl
theorem err_of {n : String} {text : List UInt8} {r : List (String × DataW Unit)} {W : World} {g : Nat} (h : laidMet P ((n, .iface esName (.ptr (.agg [.lit (.string text)]))) :: r) W) (hg : P.globalNamed n = some g) (ht : (P.globals[g]?).map (·.type) = some t_error) : ErrAt W.heap g := by
 obtain ⟨ms, hi⟩ := P_err
 obtain ⟨f, hf, hft, hfo⟩ := P_es
 obtain ⟨a0, s0, hv0, _, _, _⟩ := laid_sentinel h hg ht hi row_es P_pes hf hft hfo P_str' c_es P_cs
 have h0 : W.cell? ⟨g, 0, none⟩ = some (.iface t_p_errors_errorString (.pointer (some a0))) := by simpa using World.var?_cell hg hv0 0
 refine ⟨.iface t_p_errors_errorString (.pointer (some a0)), ?_, .inr ⟨_, _, rfl⟩⟩
 unfold hget
 unfold World.cell? at h0
 exact h0
theorem Tab_of {W : World} (h : laidMetH P listed W) : Evn W.heap := by
 refine ⟨Tab_of' h, ?_, ?_⟩
 ·have h1 := met_of h
  obtain ⟨x, y, z, w, t, e⟩ := syn_eq
  rw [e] at h1
  exact err_of (laidMet.tail (laidMet.tail (laidMet.tail (laidMet.tail h1)))) g_syn gt_syn
 ·have h1 := met_of h
  obtain ⟨x, y, z, w, t, e⟩ := rng_eq
  rw [e] at h1
  exact err_of (laidMet.tail (laidMet.tail (laidMet.tail h1))) g_rng gt_rng
/-- the integers of a listed table, as cells -/
def cellsOfData : DataW Unit → Array Value
 | .agg ds => (ds.map fun | .lit (.int k z) => Value.int k z | _ => .bool false).toArray
 | _ => #[]
def fill (d : DataW Unit) : Obj → Obj
 | .cells _ t frozen => .cells (cellsOfData d) t frozen
 | o => o
def point (b : Nat) : Obj → Obj
 | .cells _ t frozen => .cells #[.iface t_p_errors_errorString (.pointer (some ⟨b, 0, none⟩))] t frozen
 | o => o
abbrev rngText : ByteArray := ⟨#[118, 97, 108, 117, 101, 32, 111, 117, 116, 32, 111, 102, 32, 114, 97, 110, 103, 101]⟩
abbrev synText : ByteArray := ⟨#[105, 110, 118, 97, 108, 105, 100, 32, 115, 121, 110, 116, 97, 120]⟩
noncomputable def low : Nat := (World.holding P default ⟨#[], #[], []⟩).heap.size
/-- a world that holds what is listed -/
noncomputable def laidWorld (os : Os) : World :=
 let w0 := World.holding P os ⟨#[.cells #[.string rngText] t_errors_errorString, .cells #[.string synText] t_errors_errorString], #[], []⟩
 { w0 with heap := ((((w0.heap.modify 2 (fill Rows.laid_internal_strconv_uint64pow10)).modify 4 (fill Rows.laid_math_bits_deBruijn32tab)).modify 5 (fill Rows.laid_math_bits_deBruijn64tab)).modify 1 (point low)).modify 0 (point (low + 1)) }
theorem laid_met_at (os : Os) (args : Array Value) : laidMet P listed ((laidWorld os).forCall (fun _ _ => 0) ⟨#[], args, []⟩).memory :=
 laidMet_of_run' 8 (by kernel_rfl) (by kernel_rfl)
end Go.Lf.G

/-
 Rows: arguments opened, what is asked behind the call.
-/
set_option maxRecDepth 100000
namespace Go.Lf.G.M
open Go Go.ChangeShapes Go.WideShapes Go.ChangeAt Go.RowKit Go.Proofs.YteecdmkgblonnaaGreatDoor
theorem bulk_one {H : Type} (d : DataW H) : 1 ≤ Rows.uptoBulk d := by
 cases d with
 | lit l => cases l <;> simp [Rows.uptoBulk]
 | nil => simp [Rows.uptoBulk]
 | ptr d => simp [Rows.uptoBulk]
 | slice elems spare => simp [Rows.uptoBulk]
 | agg parts => simp [Rows.uptoBulk]
 | iface t d => simp [Rows.uptoBulk]
 | map entries => simp [Rows.uptoBulk]
 | held h => simp [Rows.uptoBulk]
theorem bulk_len {H : Type} (l : List (DataW H)) : l.length ≤ Rows.uptoBulkAll l := by
 induction l with
 | nil => simp [Rows.uptoBulkAll]
 | cons x r ih => have := bulk_one x; simp only [Rows.uptoBulkAll, List.length_cons]; omega
theorem stays_all {H : Type} {enc : TypeId × Value → H} {P : Program} (hl : laidOutB P = true) {W W' : World} {sp : Nat → Bool} : ∀ {ts : List TypeId} {vs : List Value} {ds : List (DataW H)} {ps : List MemPlace},
  (ts.all fun t => P.readableRec t && decide (t < P.types.size)) = true → DataW.TrodAll enc P W 0 (fun _ => true) true ts vs ds ps → (∀ p ∈ ps, W.sameAt W' p) → (∀ p ∈ ps, sp p.block = true) → DataW.TrodAll enc P W' 0 sp true ts vs ds ps
 | [], [], [], _, _, h, _, _ => h
 | t :: ts, v :: vs, d :: ds, _, hr, ⟨p, q, h1, h2, e⟩, hs, hsp => by
  simp only [List.all_cons, Bool.and_eq_true, decide_eq_true_eq] at hr
  subst e
  exact ⟨p, q, WideElems.Trod_stays hl hr.1.1 hr.1.2 h1 (fun x hx => hs x (List.mem_append_left _ hx)) (fun x hx => hsp x (List.mem_append_left _ hx)),
   stays_all hl (by simpa using hr.2) h2 (fun x hx => hs x (List.mem_append_right _ hx)) (fun x hx => hsp x (List.mem_append_right _ hx)), rfl⟩
/-- the world of a call, in parts -/
def ambOf (W : World) : Amb := ⟨W.tape, W.os, W.output⟩
theorem row_post {H : Type} {enc : TypeId × Value → H} {P : Program} {f : Func} {s : ChangeSpec} {W : World} {args : Array Value} {ds gs : List (DataW H)} {before : List MemPlace} {tb : TypeId} {h' : Heap} {n' : Nat}
  (hW : DataW.Whole enc P f.params.toList s.vars false W args.toList ds gs before) (hvars : s.vars = []) (hres : (s.fn H (ds ++ gs)).results = [.lit (.bool true)]) (hargs : (s.fn H (ds ++ gs)).args = ds) (hvs : (s.fn H (ds ++ gs)).vars = [])
  (hl : laidOutB P = true) (hp : (f.params.toList.all fun t => P.readableRec t && decide (t < P.types.size)) = true) (hr : f.resultTypes = #[tb]) (hb : P.underlying tb = some .bool) (x : Ext W.heap h') :
  s.post enc P f false true false false W args (.bool true) ((ambOf W).at h' n') := by
 have hlt := fun p (hp : p ∈ before) => hW.lt p hp
 have hsame : ∀ p ∈ before, W.sameAt ((ambOf W).at h' n') p := fun p hp => by
  have hb2 : h'[p.block]? = W.heap[p.block]? := x.get _ (hlt p hp) (fun h => h)
  cases p with
  | cell b off =>
   show hget h' ⟨b, off, none⟩ = hget W.heap ⟨b, off, none⟩
   exact hget_blk hb2
  | map b => exact hb2
 obtain ⟨p, q, hA, hV, rfl, hz, hn⟩ := id hW
 rw [hvars] at hV
 have hgs : gs = [] ∧ q = [] := by
  cases gs with
  | nil => exact ⟨rfl, hV⟩
  | cons _ _ => exact hV.elim
 obtain ⟨rfl, rfl⟩ := hgs
 refine ⟨ds, [], p ++ [], [], p, [], hW, ?_, ?_, ?_, ?_, fun h => by cases h⟩
 ·rw [hres, hr]
  exact ⟨[], [], ⟨1, by simp [DataW.trod, Value.cells, hb]⟩, rfl, rfl⟩
 ·rw [hargs]
  exact stays_all hl hp hA (fun y hy => hsame y (List.mem_append_left _ hy)) (fun y hy => by simpa using hlt y (List.mem_append_left _ hy))
 ·rw [hvars, hvs]; rfl
 ·refine ⟨rfl, rfl, fun i hi => ?_⟩
  have e : ((ambOf W).at h' n').heap[i]? = W.heap[i]? := x.get i hi (fun h => h)
  rw [e]
  cases h1 : W.heap[i]? with
  | none => trivial
  | some o =>
   cases o with
   | cells c t fr => exact ⟨rfl, rfl, rfl, fun _ _ => rfl⟩
   | map es clock => exact .inr ⟨rfl, rfl⟩
   | _ => rfl
section
variable {H : Type} {enc : TypeId × Value → H} {w : World} {base : Nat} {spare : Nat → Bool} {held : Bool}
instance : Inhabited Pr := ⟨⟨⟨#[]⟩, ⟨#[]⟩, false⟩⟩
instance : Inhabited Sl := ⟨⟨none, 0, 0⟩⟩
theorem P_int : P.underlying t_int = some (.int .i64) := by kernel_rfl
theorem P_slp : P.underlying t_sl_api_Pair = some (.slice t_api_Pair) := by kernel_rfl
theorem P_cp : P.cellsOf t_api_Pair = 3 := by kernel_rfl
theorem P_cs : P.cellsOf t_string = 1 := by kernel_rfl
theorem P_cb : P.cellsOf t_bool = 1 := by kernel_rfl
theorem P_fields (i : Nat) (f : Field) (h : (P.fieldsOf t_api_Pair).toList[i]? = some f) : (P.fieldsOf t_api_Pair)[i]? = some f := by simpa using h
theorem open_pair {n : Nat} {cs : List Value} {x : DataW H × List MemPlace} (h : DataW.trod enc P w base spare held n t_api_Pair cs = some x) : ∃ y : Pr, cs = PairE.enc y := by
 obtain ⟨xs, m, _, _, hl, hxl, hf⟩ := DataW.trod_struct P_pair h
 rw [P_cp] at hl
 have hsz : (P.fieldsOf t_api_Pair).size = 3 := by rw [← Array.length_toList, P_pair4]; rfl
 rw [hsz] at hxl
 have f0 := hf 0 _ (P_fields 0 _ (by rw [P_pair4]; rfl))
 have f1 := hf 1 _ (P_fields 1 _ (by rw [P_pair4]; rfl))
 have f2 := hf 2 _ (P_fields 2 _ (by rw [P_pair4]; rfl))
 simp only [P_cs, P_cb] at f0 f1 f2
 rw [List.getElem?_eq_getElem (by omega)] at f0 f1 f2
 obtain ⟨s0, e0, _, _⟩ := DataW.trod_string P_str f0
 obtain ⟨s1, e1, _, _⟩ := DataW.trod_string P_str f1
 obtain ⟨b2, e2, _⟩ := DataW.trod_bool P_bool f2
 match cs, hl with
 | [c0, c1, c2], _ =>
  simp at e0 e1 e2
  exact ⟨⟨s0, s1, b2⟩, by rw [e0, e1, e2]; rfl⟩
theorem open_pairs {n : Nat} {p : Option Addr} {len cap : Nat} {x : DataW H × List MemPlace} (h : DataW.trod enc P w base spare held n t_sl_api_Pair [.slice p len cap] = some x) :
  ∃ l : List Pr, View PairE w.heap ⟨p, len, cap⟩ l ∧ l.length ≤ Rows.uptoBulk x.1 := by
 rcases Deep.open_slice P_slp h with ⟨h0, rfl⟩ | ⟨a, len', cap', m, n', D, Pl, h0, _, hl, _, hm, rfl, hx⟩
 ·simp at h0
  obtain ⟨rfl, rfl, rfl⟩ := h0
  exact ⟨[], View.nil, by simp⟩
 ·simp at h0
  obtain ⟨rfl, rfl, rfl⟩ := h0
  have hlm : len ≤ m := by rw [hm]; split <;> omega
  rw [P_cp] at hx
  have : ∀ i, i < len → ∃ y : Pr, Cells w.heap (a.add (i * 3)) (PairE.enc y) := fun i hi => by
   obtain ⟨cs', h1, h2⟩ := hx i (by omega)
   obtain ⟨y, rfl⟩ := open_pair h2
   obtain ⟨_, hlen, hc⟩ := World.cells?_some h1
   refine ⟨y, fun j v hj => ?_⟩
   have hj3 : j < 3 := (List.getElem?_eq_some_iff.1 hj).1
   have := hc j hj3
   rw [hj] at this
   exact this
  obtain ⟨f, hf⟩ := Deep.choose_lt this
  refine ⟨(List.range len).map f, ⟨by simp, hl, fun i y hi => ?_⟩, ?_⟩
  ·simp only [List.getElem?_map] at hi
   by_cases hil : i < len
   ·simp [hil] at hi
    subst hi
    exact ⟨a, rfl, hf i hil⟩
   ·simp [Nat.not_lt.1 hil] at hi
  ·have := bulk_len ((List.range len).map D)
   simp only [Rows.uptoBulk]
   simp at this ⊢
   omega
end
theorem laid : laidOutB P = true := by kernel_rfl
end Go.Lf.G.M

/-
 The law LsmRuns (chapter 9) over its formula.
-/
set_option maxRecDepth 100000
set_option linter.unusedVariables false
set_option linter.unusedSimpArgs false
namespace Go.Lf.G
open Go
open M (Sorted findK putL putsL refAllL findLs GoodL wrongP OkL liveL atK thereK)
structure CallC where
 kind : Int
 bs : Sl
 key : ByteArray
 til : ByteArray
 most : Int
 ks : Sl
def CallE : Enc CallC where
 enc x := [.int .i64 x.kind, .slice x.bs.p x.bs.len x.bs.cap, .string x.key, .string x.til, .int .i64 x.most, .slice x.ks.p x.ks.len x.ks.cap]
 w := 6
 len _ := rfl
 pos := by omega
 one x v hv := by simp at hv; rcases hv with rfl | rfl | rfl | rfl | rfl | rfl <;> rfl
theorem call_at {h : Heap} {a : Addr} {x : CallC} (c : Cells h a (CallE.enc x)) : hget h a = some (.int .i64 x.kind) ∧ hget h (a.add 1) = some (.slice x.bs.p x.bs.len x.bs.cap) ∧ hget h (a.add 2) = some (.string x.key) ∧ hget h (a.add 3) = some (.string x.til) ∧ hget h (a.add 4) = some (.int .i64 x.most) ∧ hget h (a.add 5) = some (.slice x.ks.p x.ks.len x.ks.cap) := by
 have h0 := c 0 _ rfl
 rw [add_zero] at h0
 exact ⟨h0, c 1 _ rfl, c 2 _ rfl, c 3 _ rfl, c 4 _ rfl, c 5 _ rfl⟩
/-- what a call holds -/
structure CallOk (N : Nat) (h : Heap) (x : CallC) (l : List Pr) (ks : List Int) : Prop where
 bs : View PairE h x.bs l
 ks : View IntE h x.ks ks
 key : x.key.size ≤ N
theorem view_lt {α : Type} {E : Enc α} {h : Heap} {s : Sl} {l : List α} (v : View E h s l) (hl : l ≠ []) {b : Nat} (hb : s.blk = some b) : b < h.size := by
 cases l with
 | nil => exact absurd rfl hl
 | cons x l =>
  obtain ⟨a, ha, hc⟩ := v.cells 0 x rfl
  have hp := E.pos
  have hle := E.len x
  obtain ⟨u, hu⟩ : ∃ u, (E.enc x)[0]? = some u := ⟨_, List.getElem?_eq_getElem (by omega)⟩
  have := hget_lt (hc 0 u hu)
  rw [add_block, add_block] at this
  have e : a.block = b := by simpa [Sl.blk, ha] using hb
  omega
theorem map_keys {st : Db} : ∀ x ∈ mapS st, x.key.size ≤ 1099511627776 := fun x hx => by
 have h1 : PrOk x := ok_of ((store_good : GoodL (mapS st)) x hx)
 have h2 := h1.keyMost
 omega
theorem scan_len {m : List Pr} {f t : ByteArray} {most : Int} : (scanM m f t most).length ≤ m.length := by
 unfold scanM
 rw [List.length_take]
 have := cut_len f t m
 omega
section
variable {A : Amb} {B : Bud} {g h : Heap} {q : Hp} {k : Nat → Nat} {st : Db} {m : Bx} {D : Disk} {age c : Nat} {R : Value → Heap → Prop}
theorem StoreAt.put {age' c' : Nat} (S : StoreAt B g h q k st m D age c) (h1 : age ≤ age') (h2 : c ≤ c') (h3 : c' ≤ B.C) : StoreAt B g h q k st m D age' c' := (S.age h1).more h2 h3
theorem StoreAt.args (S : StoreAt B g h q k st m D age c) {s : Sl} {l : List Pr} (v : View PairE g s l) : l ≠ [] → ∀ b, s.blk = some b → b < h.size ∧ k b = 0 := fun hl b hb => by
 have h1 := view_lt v hl hb
 have := S.mem.ext.size
 exact ⟨by omega, S.base h1⟩
/-- a map beside a store -/
structure MapAt (h : Heap) (k : Nat → Nat) (bm : Nat) (sm : Sl) (mp : List Pr) : Prop where
 cell : h[bm]? = some (.cells #[.slice sm.p sm.len sm.cap] t_wherryref09_Map (0, 0))
 kz : k bm = 0
 view : View PairE h sm mp
 blk : ∀ c, sm.blk = some c → k c = 0 ∧ c < h.size ∧ c ≠ bm
theorem MapAt.lt {bm : Nat} {sm : Sl} {mp : List Pr} (M : MapAt h k bm sm mp) : bm < h.size := (Array.getElem?_eq_some_iff.1 M.cell).1
/-- a step of the store leaves the map where it is -/
theorem MapAt.step {h' : Heap} {k' : Nat → Nat} {bm : Nat} {sm : Sl} {mp : List Pr} {S : Nat → Prop} (M : MapAt h k bm sm mp) (md : Mod S h h') (hS : ∀ c, S c → k c ≠ 0 ∨ h.size ≤ c) (hk : ∀ c, k' c ≠ 0 → k c ≠ 0 ∨ h.size ≤ c) : MapAt h' k' bm sm mp := by
 have hl := M.lt
 have sz := md.size
 have nk : ∀ c, k c = 0 → c < h.size → k' c = 0 := fun c h1 h2 => Decidable.byContradiction fun h3 => by
  rcases hk c h3 with h4 | h4
  ·exact h4 h1
  ·omega
 have ns : ∀ c, k c = 0 → c < h.size → ¬ S c := fun c h1 h2 h3 => by
  rcases hS c h3 with h4 | h4
  ·exact h4 h1
  ·omega
 exact ⟨md.blk M.cell (ns _ M.kz hl), nk _ M.kz hl, M.view.mod md fun c hc => ns _ (M.blk c hc).1 (M.blk c hc).2.1, fun c hc => ⟨nk _ (M.blk c hc).1 (M.blk c hc).2.1, by have := (M.blk c hc).2.1; omega, (M.blk c hc).2.2⟩⟩
theorem MapAt.ext {h' : Heap} {bm : Nat} {sm : Sl} {mp : List Pr} (M : MapAt h k bm sm mp) (x : Ext h h') : MapAt h' k bm sm mp := M.step x (fun _ h => h.elim) (fun _ h => .inl h)
end
def budR : Bud := ⟨12800, 0, 700, by decide, by decide, by decide⟩
theorem LsmRuns_ok {A : Amb} {h : Heap} {calls : Sl} {cs : List CallC} {N : Nat} {R : Value → Heap → Prop} (E : Evn h) (v : View CallE h calls cs) (hc : ∀ x ∈ cs, ∃ l ks, CallOk N h x l ks) (hN : N ≤ 1048576) (H : ∀ h', Ext h h' → R (.bool true) h') : HCalls A P f_wherrylaw09_LsmRuns #[.slice calls.p calls.len calls.cap] h R := by
 refine ok_wherrylaw09_LsmRuns ?_
 unfold F_wherrylaw09_LsmRuns
 refine awake_ok E fun h1 x1 => ⟨_, rfl, PIf.no rfl ?_⟩
 rw [v.len]
 refine PIf.intro (fun hq => H h1 x1) (fun hq => ?_)
 have hcl : cs.length ≤ 200 := by have := of_decide_eq_false hq; omega
 refine bNew_ok fun b h2 Sb B2 x2 f2 => ⟨_, rfl, ?_⟩
 have x02 := x1.trans x2
 have sz1 := x1.size
 refine start_ok (B := budR) E B2 x02 (fun c hc => by have := f2 c hc; omega) rfl rfl (fun n => rfl) (fun n => rfl) (fun x hx => absurd rfl hx) (by decide) (by decide) fun h3 q3 k3 st3 m3 D3 eb3 S3 fu3 mp3 _ md3 kk3 => ⟨_, _, rfl, PIf.no rfl ?_⟩
 have hg3 : h.size ≤ h3.size := by have := x02.size; have := md3.size; omega
 refine New.mk fun h4 _ hb4 x4 s4 => ?_
 refine Loop.rule (fun mm x hh => ∃ (i : Nat) (q : Hp) (k : Nat → Nat) (st : Db) (m : Bx) (D : Disk) (sm : Sl), x = (some ⟨q.b, 0, none⟩, some ⟨q.d, 0, none⟩, (i : Int), ()) ∧ StoreAt budR h hh q k st m D (1 + 3 * i) (64 * i) ∧ m.fuel = -1 ∧ MapAt hh k h3.size sm (mapS st) ∧ i ≤ cs.length ∧ mm = cs.length - i) ?_
  ⟨0, q3, k3, st3, m3, D3, ⟨none, 0, 0⟩, by rw [eb3]; rfl, S3.on x4, fu3, ⟨hb4, S3.free (Nat.le_refl _), by rw [mp3]; exact View.nil, fun c hc => by simp [Sl.blk] at hc⟩, Nat.zero_le _, rfl⟩
 rintro K mm _ hh ⟨i, q, k, st, m, D, sm, rfl, S, fu, Mp, hi, rfl⟩ hK
 dsimp only
 refine PIf.intro (fun hq => ?_) (fun hq => ?_)
 ·have hil : i < cs.length := by have := of_decide_eq_true hq; omega
  have hget : cs[i]? = some cs[i] := List.getElem?_eq_getElem hil
  obtain ⟨l, ks, ck⟩ := hc cs[i] (List.getElem_mem hil)
  generalize cs[i] = cc at *
  rw [← v.len]
  refine (v.ext S.mem.ext).idx hget fun a _ c0 => ?_
  obtain ⟨c0, c1, c2, c3, c4, c5⟩ := call_at c0
  refine LoadI.mk c0 (LoadL.mk (s := cc.bs) c1 (LoadS.mk c2 (LoadS.mk c3 (LoadI.mk c4 (LoadL.mk (s := cc.ks) c5 ?_)))))
  clear c0 c1 c2 c3 c4 c5
  refine New.copy6 fun bb h6 ebb hb6 x6 s6 => ?_
  refine LoadI.mk (hget_lit hb6 rfl) ?_
  have S6 := S.on x6
  have M6 := Mp.ext x6
  have vb := ck.bs.ext S6.mem.ext
  have vk := ck.ks.ext S6.mem.ext
  have hsl := S6.args ck.bs
  have kbb : k bb = 0 := by rw [ebb]; exact S.free (Nat.le_refl _)
  clear x6 s6 Mp S ebb
  obtain ⟨l1, l2, l3, l4⟩ := S6.frlen
  have srt := S6.sorted
  refine Join.mk fun K1 hK1 => ?_
  have fin : ∀ h' q' k' st' m' D' age' c' sm', StoreAt budR h h' q' k' st' m' D' age' c' → age' ≤ 1 + 3 * (i + 1) → c' ≤ 64 * (i + 1) → m'.fuel = -1 → MapAt h' k' h3.size sm' (mapS st') → ∀ bx dx, bx = q'.b → dx = q'.d → K1 (some ⟨bx, 0, none⟩, some ⟨dx, 0, none⟩, ()) h' := fun h' q' k' st' m' D' age' c' sm' S' ha hcc fu' M' bx dx ebx edx => by
   subst ebx edx
   refine hK1 _ _ ?_
   dsimp only
   rw [wrap_succ (by omega)]
   exact hK (cs.length - (i + 1)) _ _ (by omega) ⟨i + 1, q', k', st', m', D', sm', rfl, S'.put ha hcc (by show 64 * (i + 1) ≤ 12800; omega), fu', M', hil, rfl⟩
  clear hK1 hK
  refine PIf.intro (fun h0 => ?_) (fun h0 => ?_)
  ·clear h0
   refine LoadL.mk (s := cc.bs) (hget_lit1 hb6 rfl) ?_
   by_cases hck : checkL l = 0
   ·refine Write_ok (B := budR) (s := cc.bs) E S6 (by show 1 + 3 * i + 3 ≤ 700; omega) vb hsl (fun _ => by show 64 * i + l.length ≤ 12800; have := (check_bat hck).1.len; omega) (fun hne => absurd hck hne) (fun _ h' m' fe => absurd fu fe.fuel) (fun _ h' m' fe => absurd fu fe.fuel) fun _ h7 q7 k7 st7 m7 D7 ed7 eb7 S7 sty7 wr7 _ md7 kk7 => ⟨_, rfl, ?_⟩
    have hb7 := md7.blk hb6 (by rw [kbb]; simp)
    have M7 := M6.step md7 (fun c hc => .inl hc) kk7
    have vb7 := ck.bs.ext S7.mem.ext
    have hl64 := (check_bat hck).1.len
    refine LoadL.mk (s := cc.bs) (hget_lit1 hb7 rfl) ⟨hget_lit1 hb6 rfl, ?_⟩
    refine rCheck_ok (s := cc.bs) vb7 fun h8 x8 => ⟨_, rfl, ?_⟩
    rw [hck]
    refine Join.mk fun K2 hK2 => PIf.no rfl ?_
    have hb8 := ext_cells x8 hb7
    refine LoadL.mk (s := cc.bs) (hget_lit1 hb8 rfl) ?_
    refine Check_ok (s := cc.bs) (vb7.ext x8) fun h9 x9 => ⟨_, rfl, ?_⟩
    rw [hck]
    refine hK2 _ _ (PIf.no rfl (PIf.yes rfl ?_))
    have x79 := x8.trans x9
    have M9 := M7.ext x79
    have S9 := S7.on x79
    refine LoadL.mk (s := sm) (hget_lit M9.cell rfl) (LoadL.mk (s := cc.bs) (hget_lit1 (ext_cells x9 hb8) rfl) ?_)
    refine rWrite_ok (s := sm) (sb := cc.bs) M9.view (vb7.ext x79) (by omega) fun s' h10 v10 b10 x10 => ⟨s', rfl, ?_⟩
    rw [← wr7.map] at v10
    have M10 := M9.ext x10
    have S10 := S9.on x10
    have hlt := M9.lt
    have h910 := x10.size
    refine Store.mk M10.cell (by simp) fun h11 hb11 md11 s11 => ?_
    have S11 := S10.beside md11 fun c hc => by
     subst hc; exact ⟨M10.kz, hg3⟩
    refine fin h11 q7 k7 st7 m7 D7 _ _ s' S11 (by omega) (by omega) (sty7.calm fu) ⟨by simpa using hb11, M10.kz, v10.mod md11 fun c hc e => ?_, fun c hc => ?_⟩ _ _ eb7.symm ed7.symm
    ·rcases b10 c hc with h | h
     ·exact (M9.blk c h).2.2 e
     ·omega
    ·rcases b10 c hc with h | h
     ·have := M9.blk c h; exact ⟨this.1, by omega, this.2.2⟩
     ·exact ⟨S9.free h.1, by omega, by omega⟩
   ·refine Write_ok (B := budR) (s := cc.bs) E S6 (by show 1 + 3 * i + 3 ≤ 700; omega) vb hsl (fun hz => absurd hz hck) (fun hne h7 x7 => ⟨_, rfl, ?_⟩) (fun hz => absurd hz hck) (fun hz => absurd hz hck) (fun hz => absurd hz hck)
    have hb7 := ext_cells x7 hb6
    have vb7 := vb.ext x7
    refine LoadL.mk (s := cc.bs) (hget_lit1 hb7 rfl) ⟨hget_lit1 hb6 rfl, ?_⟩
    refine rCheck_ok (s := cc.bs) vb7 fun h8 x8 => ⟨_, rfl, ?_⟩
    refine Join.mk fun K2 hK2 => PIf.no (by simp) ?_
    have hb8 := ext_cells x8 hb7
    refine LoadL.mk (s := cc.bs) (hget_lit1 hb8 rfl) ?_
    refine Check_ok (s := cc.bs) (vb7.ext x8) fun h9 x9 => ⟨_, rfl, ?_⟩
    refine hK2 _ _ (PIf.no (by simp) (PIf.no (by simpa using hck) ?_))
    have x69 := (x7.trans x8).trans x9
    exact fin h9 q k st m D _ _ sm (S6.on x69) (by omega) (by omega) fu (M6.ext x69) _ _ rfl rfl
  refine PIf.intro (fun h1 => ?_) (fun h1 => ?_)
  ·clear h0 h1
   refine LoadS.mk (hget_lit1 hb6 rfl) ?_
   refine Get_ok S6.mem l2 (by have := ck.key; omega) fun h7 x7 => ⟨_, _, _, rfl, ?_⟩
   have M7 := M6.ext x7
   refine LoadL.mk (s := sm) (hget_lit M7.cell rfl) (LoadS.mk (hget_lit1 (ext_cells x7 hb6) rfl) ?_)
   refine rGet_ok (s := sm) M7.view srt (by omega) fun h8 x8 => ⟨_, _, rfl, ?_⟩
   refine Join.mk fun K2 hK2 => PIf.no rfl (PIf.no ?_ (hK2 _ _ (PIf.no (by simp) ?_)))
   ·rw [sEq_iff]; simp
   ·exact fin h8 q k st m D _ _ sm ((S6.on x7).on x8) (by omega) (by omega) fu (M7.ext x8) _ _ rfl rfl
  refine PIf.intro (fun h2 => ?_) (fun h2 => ?_)
  ·clear h0 h1 h2
   refine LoadS.mk (hget_lit1 hb6 rfl) (LoadS.mk (hget_lit1 hb6 rfl) (LoadI.mk (hget_lit1 hb6 rfl) ?_))
   refine Scan_ok S6.mem l1 l2 l3 fun sl h7 o7 b7 x7 => ⟨sl, _, rfl, ?_⟩
   have M7 := M6.ext x7
   have hb7 := ext_cells x7 hb6
   refine Join.mk fun K2 hK2 => PIf.no rfl (LoadL.mk (s := sm) (hget_lit M7.cell rfl) (LoadS.mk (hget_lit1 hb7 rfl) (LoadS.mk (hget_lit1 hb7 rfl) (LoadI.mk (hget_lit1 hb7 rfl) ?_))))
   refine rScan_ok (s := sm) M7.view (by omega) fun s2 h8 o8 b8 x8 => ⟨s2, rfl, ?_⟩
   refine M.Same_ok (o7.view.ext x8) o8.view (by have := scan_len (m := mapS st) (f := cc.key) (t := cc.til) (most := cc.most); omega) ⟨_, rfl, hK2 _ _ (PIf.no (by simp) ?_)⟩
   exact fin h8 q k st m D _ _ sm ((S6.on x7).on x8) (by omega) (by omega) fu (M7.ext x8) _ _ rfl rfl
  refine PIf.intro (fun h3' => ?_) (fun h3' => ?_)
  ·clear h0 h1 h2 h3'
   refine Flush_ok (B := budR) E S6 (by show 1 + 3 * i + 2 ≤ 700; omega) (fun h' m' fe => absurd fu fe.fuel) fun h7 q7 k7 st7 m7 D7 ed7 eb7 S7 sty7 fr7 mp7 _ _ md7 kk7 => ⟨_, rfl, PIf.no rfl ?_⟩
   have M7 := M6.step md7 (fun c hc => .inl hc) kk7
   rw [← ed7]
   refine Shape_ok S7.mem ⟨_, _, rfl, ?_⟩
   rw [fr7]
   rw [← mp7] at M7
   exact PIf.no rfl (fin h7 q7 k7 st7 m7 D7 _ _ sm S7 (by omega) (by omega) (sty7.calm fu) M7 _ _ eb7.symm rfl)
  refine PIf.intro (fun h4' => ?_) (fun h4' => ?_)
  ·clear h0 h1 h2 h3' h4'
   refine Compact_ok (B := budR) E S6 (by show 1 + 3 * i + 1 ≤ 700; omega) (fun h' m' fe => absurd fu fe.fuel) fun h7 q7 k7 st7 m7 D7 ed7 eb7 S7 sty7 fr7 mp7 ts7 _ md7 kk7 => ⟨_, rfl, PIf.no rfl ?_⟩
   have M7 := M6.step md7 (fun c hc => .inl hc) kk7
   rw [← ed7]
   refine Shape_ok S7.mem ⟨_, _, rfl, ?_⟩
   rw [← mp7] at M7
   exact PIf.no (by simp; omega) (fin h7 q7 k7 st7 m7 D7 _ _ sm S7 (by omega) (by omega) (sty7.calm fu) M7 _ _ eb7.symm rfl)
  refine PIf.intro (fun h5' => ?_) (fun h5' => ?_)
  ·clear h0 h1 h2 h3' h4' h5'
   refine LoadL.mk (s := cc.ks) (hget_lit1 hb6 rfl) ?_
   refine bCrash_ok (keep := cc.ks) S6.mem.box vk fun b8 h8 S8 _ B8 md8 f8 => ⟨_, rfl, ?_⟩
   obtain ⟨rc8, wt8⟩ := crash_rec (ks := ks) S6
   have x8 : Ext h h8 := S6.mem.ext.then (md8.weak fun c _ hc => .inr (S6.mem.mine (by rw [S6.mem.kb c hc]; decide)))
   have sz6 := S6.mem.ext.size
   refine reopen_ok (B := budR) E B8 x8 (fun c hc => by have := f8 c hc; omega) rfl rc8 S6.hc (by show 1 + 3 * i + 1 ≤ 700; omega) wt8 (fun hf => absurd rfl hf) fun h9 q9 k9 st9 m9 D9 eb9 S9 sty9 mp9 _ md9 kk9 => ⟨_, _, rfl, PIf.no rfl ?_⟩
   have M8 : MapAt h8 (fun _ => 0) h3.size sm (mapS st) := by
    have := M6.step (k' := fun _ => 0) md8 (fun c hc => .inl (by rw [S6.mem.kb c hc]; decide)) (fun c hc => absurd rfl hc)
    exact this
   have nk : ∀ c, k c = 0 → c < h6.size → k9 c = 0 := fun c h1 h2 => Decidable.byContradiction fun h3 => by
    have := md8.size
    rcases kk9 c h3 with h4 | h4
    ·have := f8 c h4; omega
    ·omega
   have ns : ∀ c, c < h6.size → ¬ S8 c := fun c h1 h2 => by have := f8 c h2; omega
   have hml := M6.lt
   have sz9 := md9.size
   have sz8 := md8.size
   have M9 : MapAt h9 k9 h3.size sm (mapS st9) := by
    rw [mp9]
    exact ⟨md9.blk M8.cell (ns _ hml), nk _ M6.kz hml, M8.view.mod md9 fun c hc => ns _ (M6.blk c hc).2.1, fun c hc => ⟨nk _ (M6.blk c hc).1 (M6.blk c hc).2.1, by have := (M6.blk c hc).2.1; omega, (M6.blk c hc).2.2⟩⟩
   rw [← eb9]
   exact fin h9 q9 k9 st9 m9 D9 _ _ sm S9 (by omega) (by omega) (sty9.calm rfl) M9 _ _ rfl rfl
  ·exact fin h6 q k st m D _ _ sm S6 (by omega) (by omega) fu M6 _ _ rfl rfl
 ·refine LoadL.mk (s := sm) (hget_lit Mp.cell rfl) ?_
  refine ltold_ok S Mp.view map_keys fun h' x' => ⟨_, rfl, ?_⟩
  rw [decide_eq_true rfl]
  exact H h' (S.mem.ext.trans x')
end Go.Lf.G

/-
 Arguments of the store's statements, opened.
-/
set_option maxRecDepth 100000
set_option linter.unusedVariables false
set_option linter.unusedSimpArgs false
namespace Go.Lf.G
open Go Go.ChangeShapes Go.WideShapes Go.ChangeAt Go.RowKit Go.Proofs.YteecdmkgblonnaaGreatDoor
theorem bulk_mem {H : Type} {d : DataW H} : ∀ {ds : List (DataW H)}, d ∈ ds → Rows.uptoBulk d ≤ Rows.uptoBulkAll ds
 | [], h => by cases h
 | x :: l, h => by
  unfold Rows.uptoBulkAll
  rcases List.mem_cons.1 h with rfl | h
  ·omega
  ·have := bulk_mem h; omega
theorem P_csli : P.cellsOf t_sl_int = 1 := by kernel_rfl
theorem P_cslp : P.cellsOf t_sl_api_Pair = 1 := by kernel_rfl
section
variable {H : Type} {enc : TypeId × Value → H} {w : World} {base : Nat} {spare : Nat → Bool} {held : Bool}
theorem open_slcs {tS t : TypeId} {n : Nat} {cs : List Value} {x : DataW H × List MemPlace} (hT : P.underlying tS = some (.slice t)) (h : DataW.trod enc P w base spare held n tS cs = some x) : ∃ s : Sl, cs = [.slice s.p s.len s.cap] := by
 rcases Deep.open_slice hT h with ⟨rfl, _⟩ | ⟨a, len', cap', m, n', D, Pl, rfl, _⟩
 ·exact ⟨⟨none, 0, 0⟩, rfl⟩
 ·exact ⟨⟨some a, len', cap'⟩, rfl⟩
end
/-! ### structs -/
def fieldsOf (P : Program) (t : TypeId) : Option (List (TypeId × Nat)) := match P.underlying t with
 | some (.struct fs) => some (fs.toList.map fun f => (f.type, f.offset))
 | _ => none
section
variable {H : Type} {enc : TypeId × Value → H} {w : World} {base : Nat} {spare : Nat → Bool} {held : Bool}
theorem open_fields {t : TypeId} {fts : List (TypeId × Nat)} {n : Nat} {cs : List Value} {x : DataW H × List MemPlace} (ht : fieldsOf P t = some fts) (h : DataW.trod enc P w base spare held n t cs = some x) :
  ∃ (xs : List (DataW H × List MemPlace)) (m : Nat), x = (.agg (xs.map (·.1)), xs.flatMap (·.2)) ∧ cs.length = P.cellsOf t ∧ xs.length = fts.length ∧
   ∀ (i : Nat) (f : TypeId × Nat), fts[i]? = some f → DataW.trod enc P w base spare held m f.1 ((cs.drop f.2).take (P.cellsOf f.1)) = xs[i]? := by
 unfold fieldsOf at ht
 split at ht
 ·rename_i fs hfs
  simp at ht
  subst ht
  obtain ⟨xs, m, _, rfl, h1, h2, h3⟩ := DataW.trod_struct hfs h
  refine ⟨xs, m, rfl, h1, by simpa using h2, fun i f hf => ?_⟩
  simp only [List.getElem?_map, Option.map_eq_some_iff, Array.getElem?_toList] at hf
  obtain ⟨g, hg, rfl⟩ := hf
  exact h3 i g hg
 ·cases ht
end
theorem P_call : fieldsOf P t_wherrylaw09_Call = some [(t_int, 0), (t_sl_api_Pair, 1), (t_string, 2), (t_string, 3), (t_int, 4), (t_sl_int, 5)] := by kernel_rfl
theorem P_ccall : P.cellsOf t_wherrylaw09_Call = CallE.w := by kernel_rfl
theorem P_slcall : P.underlying t_sl_wherrylaw09_Call = some (.slice t_wherrylaw09_Call) := by kernel_rfl
section
variable {H : Type} {enc : TypeId × Value → H} {w : World} {base : Nat} {spare : Nat → Bool} {held : Bool}
theorem open_call {n : Nat} {cs : List Value} {x : DataW H × List MemPlace} (h : DataW.trod enc P w base spare held n t_wherrylaw09_Call cs = some x) :
  ∃ y : CallC, cs = CallE.enc y ∧ ∃ l ks, CallOk (Rows.uptoBulk x.1) w.heap y l ks := by
 obtain ⟨xs, m, hx, h1, h2, h3⟩ := open_fields P_call h
 rw [P_ccall] at h1
 match cs, h1 with
 | [c0, c1, c2, c3, c4, c5], _ =>
  match xs, h2 with
  | [x0, x1, x2, x3, x4, x5], _ =>
   have k0 := h3 0 _ rfl
   have k1 := h3 1 _ rfl
   have k2 := h3 2 _ rfl
   have k3 := h3 3 _ rfl
   have k4 := h3 4 _ rfl
   have k5 := h3 5 _ rfl
   simp only [P_cslp, P_ci, P_csli, P_cs] at k0 k1 k2 k3 k4 k5
   obtain ⟨n0, e0, _, _⟩ := DataW.trod_int P_int k0
   obtain ⟨s1, e1⟩ := open_slcs M.P_slp k1
   obtain ⟨n2, e2, g2, _⟩ := DataW.trod_string P_str' k2
   obtain ⟨n3, e3, g3, _⟩ := DataW.trod_string P_str' k3
   obtain ⟨n4, e4, _, _⟩ := DataW.trod_int P_int k4
   obtain ⟨s5, e5⟩ := open_slcs P_slint k5
   have e1' : [c1] = [.slice s1.p s1.len s1.cap] := e1
   have e5' : [c5] = [.slice s5.p s5.len s5.cap] := e5
   simp at e0 e1 e2 e3 e4 e5
   subst e0 e1 e2 e3 e4 e5
   obtain ⟨l1, v1, _⟩ := M.open_pairs (p := s1.p) (len := s1.len) (cap := s1.cap) k1
   obtain ⟨l5, v5, _, _⟩ := open_ints (p := s5.p) (len := s5.len) (cap := s5.cap) k5
   refine ⟨⟨n0, s1, n2, n3, n4, s5⟩, rfl, l1, l5, v1, v5, ?_⟩
   subst hx
   have hs : n2.data.toList.length = n2.size := by rw [Array.length_toList]; rfl
   have hg : x2.1 = _ := congrArg Prod.fst g2
   simp only [List.map_cons, List.map_nil, Rows.uptoBulk, Rows.uptoBulkAll, hg]
   omega
end
theorem arg_calls {H : Type} {enc : TypeId × Value → H} {W : World} {base : Nat} {v : Value} {d : DataW H} {ps : List MemPlace} (hv : Value.okWide P W .any base t_sl_wherrylaw09_Call v) (h : DataW.Trod enc P W 0 (fun _ => true) true t_sl_wherrylaw09_Call v d ps) :
  ∃ (s : Sl) (l : List CallC), v = .slice s.p s.len s.cap ∧ View CallE W.heap s l ∧ ∀ x ∈ l, ∃ lp ks, CallOk (Rows.uptoBulk d) W.heap x lp ks := by
 obtain ⟨p, len, cap, rfl⟩ := okWide_slice P_slcall hv
 obtain ⟨n, hn⟩ := h
 obtain ⟨l, ds, V, hl, hq, hb⟩ := open_sl (E := CallE) (Q := fun y d => ∃ lp ks, CallOk (Rows.uptoBulk d) W.heap y lp ks) P_slcall P_ccall (fun n cs x hx => open_call hx) hn
 refine ⟨⟨p, len, cap⟩, l, rfl, V, fun x hx => ?_⟩
 obtain ⟨d', hd, lp, ks, c⟩ := mem_bulk hl hq hx
 have h1 : Rows.uptoBulk d' ≤ Rows.uptoBulkAll ds := bulk_mem hd
 exact ⟨lp, ks, c.bs, c.ks, by have := c.key; dsimp only at hb; omega⟩
end Go.Lf.G

