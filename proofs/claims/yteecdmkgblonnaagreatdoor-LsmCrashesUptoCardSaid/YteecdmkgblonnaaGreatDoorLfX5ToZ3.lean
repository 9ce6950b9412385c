/-
 A log over a calm box, step by step; a log that is awake (chapter 4).
-/
import Derived.Test.YteecdmkgblonnaaGreatDoorLfM12ToX4
set_option linter.unusedVariables false
set_option linter.unusedSimpArgs false
set_option maxRecDepth 100000
set_option linter.unusedVariables false
set_option linter.unusedSimpArgs false
namespace Go.Lf.G
open Go
/-- a log over a box, behind h -/
structure Lw (h : Heap) (lg b : Nat) (nm : ByteArray) (hh : Heap) (S : Nat → Prop) (m : Bx) (seg : Nat) (made : Bool) : Prop where
 box : IsBox hh b S m
 log : IsLog hh lg b nm seg made
 ext : Ext h hh
 fresh : ∀ c, S c → h.size ≤ c ∧ c ≠ lg
 lgn : h.size ≤ lg
theorem Lw.nS {h : Heap} {lg b : Nat} {nm : ByteArray} {hh : Heap} {S : Nat → Prop} {m : Bx} {seg : Nat} {made : Bool} (W : Lw h lg b nm hh S m seg made) : ¬ S lg := fun hc => (W.fresh _ hc).2 rfl
theorem Lw.on {h : Heap} {lg b : Nat} {nm : ByteArray} {hh h2 : Heap} {S : Nat → Prop} {m : Bx} {seg : Nat} {made : Bool} (W : Lw h lg b nm hh S m seg made) (x : Ext hh h2) : Lw h lg b nm h2 S m seg made :=
 ⟨W.box.ext x, W.log.ext x, W.ext.trans x, W.fresh, W.lgn⟩
theorem Lw.env {h : Heap} {lg b : Nat} {nm : ByteArray} {hh h2 : Heap} {S : Nat → Prop} {m : Bx} {seg : Nat} {made : Bool} (W : Lw h lg b nm hh S m seg made) (E : Evn h) (x : Mod S hh h2) : Evn h2 := E.ext (W.ext.more x fun c hc => (W.fresh c hc).1)
theorem Lw.upd {h : Heap} {lg b : Nat} {nm : ByteArray} {hh h2 : Heap} {S S2 : Nat → Prop} {m m2 : Bx} {seg seg2 : Nat} {made made2 : Bool} (W : Lw h lg b nm hh S m seg made) (B : IsBox h2 b S2 m2) (L : IsLog h2 lg b nm seg2 made2) (x : Mod (fun c => S c ∨ c = lg) hh h2) (s : ∀ c, S2 c → S c ∨ (hh.size ≤ c ∧ c ≠ lg)) : Lw h lg b nm h2 S2 m2 seg2 made2 := by
 have hx := W.ext.size
 refine ⟨B, L, W.ext.more x fun c hc => ?_, fun c hc => ?_, W.lgn⟩
 ·rcases hc with hc | rfl
  ·exact (W.fresh c hc).1
  ·exact W.lgn
 ·rcases s c hc with h | h
  ·exact W.fresh c h
  ·exact ⟨by omega, h.2⟩
def frm (rec : ByteArray) : ByteArray := strL (wrapL (bl rec))
theorem frm_size {rec : ByteArray} (h : rec.size ≤ 1048576) : rec.size + 5 ≤ (frm rec).size ∧ (frm rec).size ≤ rec.size + 14 := by
 have := wrapL_len (r := bl rec) (by rw [bl_size]; exact h)
 rw [bl_size] at this
 rw [frm, strL_size]
 exact this
theorem Lw.append {A : Amb} {h : Heap} {lg b : Nat} {nm rec : ByteArray} {hh : Heap} {S : Nat → Prop} {m : Bx} {seg : Nat} {made : Bool} {R : Value → Heap → Prop} (W : Lw h lg b nm hh S m seg made) (E : Evn h) (c : Calm m) (h8 : nm.size ≤ 8) (hseg : seg ≤ 99999999) (hr : rec.size ≤ 1048576) (hw : wtF m.files ≤ 8000000000000)
  (H : ∀ h' S' m', Lw h lg b nm h' S' m' seg true → Calm m' → (∀ x, ff m' x = if x = fnB nm seg then some (((ff m (fnB nm seg)).getD (bs0, bs0)).1, ((ff m (fnB nm seg)).getD (bs0, bs0)).2 ++ frm rec) else ff m x) → wtF m'.files ≤ wtF m.files + rec.size + 15 →
   Mod (fun c => S c ∨ c = lg) hh h' → (∀ c, S' c → S c ∨ (hh.size ≤ c ∧ c ≠ lg)) → R (.int .i64 0) h') : HCalls A P f_wal_Log_Append #[ptrV lg, .string rec] hh R := by
 refine lAppend_ok (E.ext W.ext) W.log W.box W.nS (fun h' x => W.env E x) (by omega) (by omega) hr hw fun h' S' B' L' md s' => ?_
 obtain ⟨e1, e2⟩ := ff_append c.goes (k := fnB nm seg) (d := frm rec) (fn_good h8 hseg)
 have e1' : (appendB m (fnB nm seg) (strL (wrapL (bl rec)))).1 = 0 := e1
 rw [e1'] at L' ⊢
 rw [decide_eq_true rfl, Bool.or_true] at L'
 have hwt := wt_append W.box.good (fnB nm seg) (frm rec)
 have hfs := frm_size hr
 exact H h' S' _ (W.upd B' L' md s') (calm_append c _ _) e2 (Nat.le_trans hwt (by omega)) md s'
theorem Lw.sync {A : Amb} {h : Heap} {lg b : Nat} {nm : ByteArray} {hh : Heap} {S : Nat → Prop} {m : Bx} {seg : Nat} {made : Bool} {R : Value → Heap → Prop} (W : Lw h lg b nm hh S m seg made) (E : Evn h) (c : Calm m) (h8 : nm.size ≤ 8) (hseg : seg ≤ 99999999) (hm : made = true → (ff m (fnB nm seg)).isSome = true)
  (H : ∀ h' m', Lw h lg b nm h' S m' seg made → Calm m' → (∀ x, ff m' x = if x = fnB nm seg ∧ made = true then (ff m x).map (fun p => (p.1 ++ p.2, bs0)) else ff m x) → wtF m'.files ≤ wtF m.files → Mod S hh h' → R (.int .i64 0) h') : HCalls A P f_wal_Log_Sync #[ptrV lg] hh R := by
 refine lSync_ok (E.ext W.ext) W.log W.box W.nS (by omega) (by omega) fun h' B' L' md => ?_
 cases made with
 | false =>
  exact H h' m (W.upd B' L' (md.weak fun c _ hc => .inl hc) fun c hc => .inl hc) c (fun x => by rw [if_neg (by simp)]) (Nat.le_refl _) md
 | true =>
  obtain ⟨p, hp⟩ := Option.isSome_iff_exists.1 (hm rfl)
  obtain ⟨e1, e2⟩ := ff_sync c.goes hp
  have e1' : (syncL m (fnB nm seg) true).1 = 0 := e1
  rw [e1']
  refine H h' _ (W.upd B' L' (md.weak fun c _ hc => .inl hc) fun c hc => .inl hc) (calm_sync c _) (fun x => ?_) (wt_sync W.box.good _) md
  show ff (syncB m (fnB nm seg)).2 x = _
  rw [e2]
  by_cases hx : x = fnB nm seg
  ·subst hx; rw [if_pos rfl, if_pos ⟨rfl, rfl⟩, hp]; rfl
  ·rw [if_neg hx, if_neg (fun h => hx h.1)]
abbrev nx : ByteArray := ⟨#[120]⟩
end Go.Lf.G

/-
 What a store's files hold (chapter 9): plain law: segments, notes, tables, a crash.
-/
set_option maxRecDepth 100000
set_option linter.unusedVariables false
set_option linter.unusedSimpArgs false
namespace Go.Lf.G
open Go
open M (Sorted findK putL putsL refAllL findLs GoodL wrongP OkL liveL)
/-! ### names -/
abbrev Fls := ByteArray → Option (ByteArray × ByteArray)
abbrev nl : ByteArray := ⟨#[108]⟩
abbrev nn : ByteArray := ⟨#[110]⟩
abbrev nt : ByteArray := ⟨#[116]⟩
def tfN (n : Nat) : ByteArray := nt ++ strL (Lib.decDigits n)
theorem tfN_bl (n : Nat) : bl (tfN n) = 116 :: Lib.decDigits n := by
 show (nt ++ strL (Lib.decDigits n)).data.toList = _
 rw [ByteArray.data_append, Array.toList_append]
 show [116] ++ (strL (Lib.decDigits n)).data.toList = _
 rw [show (strL (Lib.decDigits n)).data.toList = Lib.decDigits n from strL_list _]; rfl
theorem tfN_inj {n k : Nat} (h : tfN n = tfN k) : n = k := by
 have h1 := congrArg bl h
 rw [tfN_bl, tfN_bl] at h1
 have h2 : Lib.decDigits n = Lib.decDigits k := by injection h1
 have h3 := (dec_dig n).2
 rw [h2, (dec_dig k).2] at h3
 exact h3.symm
theorem fnl_head (n : Nat) : (bl (fnB nl n)).head? = some 108 := by rw [fnB_bl]; rfl
theorem fnn_head (n : Nat) : (bl (fnB nn n)).head? = some 110 := by rw [fnB_bl]; rfl
theorem tfN_head (n : Nat) : (bl (tfN n)).head? = some 116 := by rw [tfN_bl]; rfl
theorem ln_ne (n k : Nat) : fnB nl n ≠ fnB nn k := fun h => by have := fnl_head n; rw [h, fnn_head] at this; cases this
theorem lt_ne' (n k : Nat) : fnB nl n ≠ tfN k := fun h => by have := fnl_head n; rw [h, tfN_head] at this; cases this
theorem nt_ne (n k : Nat) : fnB nn n ≠ tfN k := fun h => by have := fnn_head n; rw [h, tfN_head] at this; cases this
/-- a store's own files -/
def Mine (x : ByteArray) : Prop := (∃ n, x = fnB nl n) ∨ (∃ n, x = fnB nn n) ∨ ∃ n, x = tfN n
/-! ### a crash -/
def CrashTo (F G : Fls) : Prop := ∀ x, match F x with
 | none => G x = none
 | some p => ∃ j, G x = if p.1 ++ p.2.extract 0 j = bs0 then none else some (p.1 ++ p.2.extract 0 j, bs0)
theorem ext0 (s : ByteArray) : s.extract 0 0 = bs0 := by
 have : (s.extract 0 0).size = 0 := by simp
 have h2 := strL_bl (s.extract 0 0)
 have h3 : bl (s.extract 0 0) = [] := empty_bl this
 rw [h3] at h2
 exact h2.symm
theorem ext_nil (j : Nat) : bs0.extract 0 j = bs0 := by
 have : (bs0.extract 0 j).size = 0 := by
  have : bs0.size = 0 := rfl
  rw [ByteArray.size_extract]; omega
 have h2 := strL_bl (bs0.extract 0 j)
 have h3 : bl (bs0.extract 0 j) = [] := empty_bl this
 rw [h3] at h2
 exact h2.symm
theorem kept_pre (ks : List Int) (k : Nat) (f : Fi) : ∃ j, keptF ks k f = f.firm ++ f.soft.extract 0 j := by
 unfold keptF
 split
 ·rename_i h; exact ⟨0, by rw [ext0, app_nil]⟩
 ·split
  ·exact ⟨_, rfl⟩
  ·exact ⟨0, by rw [ext0, app_nil]⟩
theorem crash_find {ks : List Int} : ∀ {l : List Fi} {k : Nat} (x : ByteArray), SortedF l → match findF x l with
  | none => findF x (crashF ks k l) = none
  | some f => ∃ j, findF x (crashF ks k l) = if f.firm ++ f.soft.extract 0 j = bs0 then none else some ⟨f.name, f.firm ++ f.soft.extract 0 j, bs0⟩
 | [], k, x, _ => rfl
 | f :: l, k, x, s => by
  have s' := List.pairwise_cons.1 s
  have ih := crash_find (ks := ks) (k := nextF k f) x s'.2
  unfold crashF oneF
  rw [findF_cons]
  by_cases hx : f.name = x
  ·rw [if_pos hx]
   obtain ⟨j, hj⟩ := kept_pre ks k f
   refine ⟨j, ?_⟩
   rw [← hj]
   by_cases hb : keptF ks k f = bs0
   ·rw [if_pos hb, if_pos hb, List.nil_append]
    refine find_crash_none (findF_none' fun g hg e => ?_)
    exact lt_ne (s'.1 g hg) (hx.trans e.symm)
   ·rw [if_neg hb, if_neg hb, List.singleton_append, findF_cons, if_pos hx]
  ·rw [if_neg hx]
   by_cases hb : keptF ks k f = bs0
   ·rw [if_pos hb, List.nil_append]; exact ih
   ·rw [if_neg hb, List.singleton_append, findF_cons, if_neg hx]; exact ih
theorem crash_to {m : Bx} (g : GoodB m) (ks : List Int) : CrashTo (ff m) (ff (crashB m ks)) := by
 intro x
 have h := crash_find (ks := ks) (k := 0) x g.sorted
 cases hf : findF x m.files with
 | none =>
  rw [hf] at h
  have e : ff m x = none := by unfold ff; rw [hf]; rfl
  have h : findF x (crashF ks 0 m.files) = none := h
  rw [e]
  show (findF x (crashF ks 0 m.files)).map _ = none
  rw [h]; rfl
 | some f =>
  rw [hf] at h
  obtain ⟨j, hj⟩ := h
  have e : ff m x = some (f.firm, f.soft) := by unfold ff; rw [hf]; rfl
  rw [e]
  refine ⟨j, ?_⟩
  show (findF x (crashF ks 0 m.files)).map _ = _
  rw [hj]
  split <;> rfl
/-- firm: kept, or empty and gone -/
def Keeps (a b : Option (ByteArray × ByteArray)) : Prop := b = a ∨ (a = some (bs0, bs0) ∧ b = none)
theorem CrashTo.firm {F G : Fls} (c : CrashTo F G) {x : ByteArray} (h : ∀ p, F x = some p → p.2 = bs0) : Keeps (F x) (G x) := by
 have := c x
 cases hf : F x with
 | none => rw [hf] at this; exact .inl this
 | some p =>
  rw [hf] at this
  obtain ⟨j, hj⟩ := this
  have hp := h p hf
  obtain ⟨p1, p2⟩ := p
  simp only at hp
  subst hp
  simp only [ext_nil, app_nil] at hj
  by_cases h0 : p1 = bs0
  ·subst h0; rw [if_pos rfl] at hj; exact .inr ⟨rfl, hj⟩
  ·rw [if_neg h0] at hj; exact .inl hj
/-! ### segments -/
structure SegF (F : Fls) (nm : ByteArray) (top : Nat) (R : Nat → List (List UInt8)) : Prop where
 has : ∀ n p, 1 ≤ n → n ≤ 99999999 → F (fnB nm n) = some p → p.2 = bs0 ∧ Scan (bl p.1) (R n)
 non : ∀ n, 1 ≤ n → n ≤ 99999999 → F (fnB nm n) = none → R n = []
 out : ∀ n, top ≤ n → n ≤ 99999999 → F (fnB nm n) = none
 far : ∀ n, (n = 0 ∨ top ≤ n) → R n = []
def updS {α : Type} (R : Nat → α) (s : Nat) (v : α) : Nat → α := fun n => if n = s then v else R n
theorem updS_self {α : Type} {R : Nat → α} {s : Nat} {v : α} : updS R s v s = v := if_pos rfl
theorem updS_ne {α : Type} {R : Nat → α} {s n : Nat} {v : α} (h : n ≠ s) : updS R s v n = R n := if_neg h
theorem scan_nil {rs : List (List UInt8)} (h : Scan [] rs) : rs = [] := h.uniq (.stop next_nil)
/-- another content of one segment; the others are kept -/
theorem SegF.put {F G : Fls} {nm : ByteArray} {top top' : Nat} {R : Nat → List (List UInt8)} (h : SegF F nm top R) {s : Nat} {v : List (List UInt8)} (hs : 1 ≤ s ∧ s ≤ 99999999) (ht : s < top') (hk : ∀ n, 1 ≤ n → n ≤ 99999999 → n ≠ s → Keeps (F (fnB nm n)) (G (fnB nm n)))
  (hv : (G (fnB nm s) = none ∧ v = []) ∨ ∃ x, G (fnB nm s) = some (x, bs0) ∧ Scan (bl x) v) (htt : top ≤ top') : SegF G nm top' (updS R s v) := by
 refine ⟨fun n p n1 n9 hg => ?_, fun n n1 n9 hg => ?_, fun n hn n9 => ?_, fun n hn => ?_⟩
 ·by_cases e : n = s
  ·subst e
   rw [updS_self]
   rcases hv with ⟨h1, _⟩ | ⟨x, h1, h2⟩
   ·rw [h1] at hg; cases hg
   ·rw [h1] at hg; cases hg; exact ⟨rfl, h2⟩
  ·rw [updS_ne e]
   rcases hk n n1 n9 e with h1 | ⟨h1, h2⟩
   ·exact h.has n p n1 n9 (h1 ▸ hg)
   ·rw [h2] at hg; cases hg
 ·by_cases e : n = s
  ·subst e
   rw [updS_self]
   rcases hv with ⟨_, h1⟩ | ⟨x, h1, _⟩
   ·exact h1
   ·rw [h1] at hg; cases hg
  ·rw [updS_ne e]
   rcases hk n n1 n9 e with h1 | ⟨h1, h2⟩
   ·exact h.non n n1 n9 (h1 ▸ hg)
   ·obtain ⟨_, h3⟩ := h.has n _ n1 n9 h1
    exact scan_nil h3
 ·have e : n ≠ s := by omega
  rcases hk n (by omega) n9 e with h1 | ⟨h1, h2⟩
  ·rw [h1]; exact h.out n (by omega) n9
  ·exact h2
 ·have e : n ≠ s := by omega
  rw [updS_ne e]; exact h.far n (by omega)
theorem SegF.keep {F G : Fls} {nm : ByteArray} {top : Nat} {R : Nat → List (List UInt8)} (h : SegF F nm top R) (ht : 1 ≤ top) (hk : ∀ n, 1 ≤ n → n ≤ 99999999 → Keeps (F (fnB nm n)) (G (fnB nm n))) : SegF G nm top R := by
 refine ⟨fun n p n1 n9 hg => ?_, fun n n1 n9 hg => ?_, fun n hn n9 => ?_, h.far⟩
 ·rcases hk n (by omega) n9 with h1 | ⟨h1, h2⟩
  ·exact h.has n p n1 n9 (h1 ▸ hg)
  ·rw [h2] at hg; cases hg
 ·rcases hk n (by omega) n9 with h1 | ⟨h1, h2⟩
  ·exact h.non n n1 n9 (h1 ▸ hg)
  ·obtain ⟨_, h3⟩ := h.has n _ n1 n9 h1
   exact scan_nil h3
 ·rcases hk n (by omega) n9 with h1 | ⟨h1, h2⟩
  ·rw [h1]; exact h.out n hn n9
  ·exact h2
theorem SegF.up {F : Fls} {nm : ByteArray} {top top' : Nat} {R : Nat → List (List UInt8)} (h : SegF F nm top R) (ht : top ≤ top') : SegF F nm top' R :=
 ⟨h.has, h.non, fun n hn => h.out n (by omega), fun n hn => h.far n (by omega)⟩
/-- some segments are gone -/
theorem SegF.drop {F G : Fls} {nm : ByteArray} {top : Nat} {R R' : Nat → List (List UInt8)} (h : SegF F nm top R) (hk : ∀ n, n ≤ 99999999 → (G (fnB nm n) = F (fnB nm n) ∧ R' n = R n) ∨ (G (fnB nm n) = none ∧ R' n = [])) (hf : ∀ n, (n = 0 ∨ top ≤ n) → R' n = []) : SegF G nm top R' := by
 refine ⟨fun n p n1 n9 hg => ?_, fun n n1 n9 hg => ?_, fun n hn n9 => ?_, hf⟩
 ·rcases hk n n9 with ⟨h1, h2⟩ | ⟨h1, h2⟩
  ·rw [h2]; exact h.has n p n1 n9 (h1 ▸ hg)
  ·rw [h1] at hg; cases hg
 ·rcases hk n n9 with ⟨h1, h2⟩ | ⟨h1, h2⟩
  ·rw [h2]; exact h.non n n1 n9 (h1 ▸ hg)
  ·exact h2
 ·rcases hk n n9 with ⟨h1, h2⟩ | ⟨h1, h2⟩
  ·rw [h1]; exact h.out n hn n9
  ·exact h1
/-- a record more is soft, and the box is crashed -/
theorem torn_or {rs : List (List UInt8)} {r : List UInt8} (hs : ∀ x ∈ rs ++ [r], x.length ≤ 1048576) (j : Nat) : Scan (bl (strL (wraps rs) ++ (strL (wrapL r)).extract 0 j)) rs ∨ Scan (bl (strL (wraps rs) ++ (strL (wrapL r)).extract 0 j)) (rs ++ [r]) := by
 have e : bl (strL (wraps rs) ++ (strL (wrapL r)).extract 0 j) = wraps rs ++ (wrapL r).take j := by
  show (strL (wraps rs) ++ (strL (wrapL r)).extract 0 j).data.toList = _
  rw [ByteArray.data_append, Array.toList_append, ByteArray.data_extract, Array.toList_extract]
  rw [show (strL (wraps rs)).data.toList = wraps rs from strL_list _, show (strL (wrapL r)).data.toList = wrapL r from strL_list _]
  simp
 rw [e]
 by_cases hj : j < (wrapL r).length
 ·exact .inl (scan_wraps (fun x hx => hs x (by simp [hx])) (next_torn (hs r (by simp)) hj))
 ·right
  rw [List.take_of_length_le (by omega)]
  have := scan_wraps (rs := rs ++ [r]) hs (t := []) next_nil
  simpa using this
/-! ### notes, batches -/
structure Nt where
 next : Nat
 frm : Nat
 names : List Nat
def noteL (x : Nt) : List UInt8 := putV x.next ++ putV x.frm ++ putV x.names.length ++ x.names.flatMap putV
structure NtOk (x : Nt) : Prop where
 next : x.next ≤ 99999999
 frm : 1 ≤ x.frm ∧ x.frm ≤ 99999999
 cnt : x.names.length ≤ 60000
 below : ∀ n ∈ x.names, n < x.next
 nd : x.names.Nodup
structure BatOk (b : List Pr) : Prop where
 len : b.length ≤ 64
 ok : ∀ x ∈ b, PrOk x
theorem names_len : ∀ {l : List Nat}, (∀ n ∈ l, n ≤ 99999999) → (l.flatMap putV).length ≤ l.length * 10
 | [], _ => by simp
 | n :: l, h => by
  have h1 := putV_len10 (n := n) (by have := h n (by simp); omega)
  have h2 := names_len (l := l) fun k hk => h k (List.mem_cons_of_mem _ hk)
  simp only [List.flatMap_cons, List.length_append, List.length_cons]; omega
theorem note_len {x : Nt} (h : NtOk x) : (noteL x).length ≤ 30 + x.names.length * 10 := by
 have h1 := putV_len10 (n := x.next) (by have := h.next; omega)
 have h2 := putV_len10 (n := x.frm) (by have := h.frm; omega)
 have h3 := putV_len10 (n := x.names.length) (by have := h.cnt; omega)
 have h4 := names_len (l := x.names) fun n hn => by have := h.below n hn; have := h.next; omega
 simp only [noteL, List.length_append]; omega
theorem batch_len {s : Nat} {b : List Pr} (hs : s ≤ 99999999) (h : BatOk b) : (batchL s b).length ≤ 20 + 64 * 8276 := by
 have h1 := putV_len10 (n := s) (by omega)
 have h2 := putV_len10 (n := b.length) (by have := h.len; omega)
 have h3 := pairs_most h.ok
 have h4 := h.len
 have h5 : b.length * 8276 ≤ 64 * 8276 := Nat.mul_le_mul_right _ h4
 simp only [batchL, List.length_append]; omega
/-! ### the disk -/
structure Disk where
 L : Nat → List (List Pr)
 N : Nat → List Nt
 T : Nat → List Pr
 ltop : Nat
 ntop : Nat
def notesD (D : Disk) : List Nt := (List.range D.ntop).flatMap D.N
def lastN (D : Disk) : Nt := (notesD D).getLast?.getD ⟨1, 1, []⟩
def batsD (D : Disk) : List (List Pr) := (List.range D.ltop).flatMap fun n => if n < (lastN D).frm then [] else D.L n
def freshD (D : Disk) : List Pr := putsL [] (batsD D).flatten
def mapD (D : Disk) : List Pr := liveL (refAllL (freshD D :: (lastN D).names.map D.T))
structure DiskOk (F : Fls) (D : Disk) : Prop where
 log : SegF F nl D.ltop fun n => (D.L n).map (batchL n)
 note : SegF F nn D.ntop fun n => (D.N n).map noteL
 tab : ∀ n ∈ (lastN D).names, F (tfN n) = some (strL (tabL (D.T n)), bs0) ∧ TabOk (D.T n)
 bat : ∀ n b, b ∈ D.L n → BatOk b
 nts : ∀ n x, x ∈ D.N n → NtOk x
 tonly : ∀ x, F x ≠ none → (bl x).head? = some 116 → ∃ n, x = tfN n
 tops : 1 ≤ D.ltop ∧ D.ltop ≤ 99999999 ∧ 1 ≤ D.ntop ∧ D.ntop ≤ 99999999
theorem lastN_ok {F : Fls} {D : Disk} (h : DiskOk F D) : NtOk (lastN D) := by
 unfold lastN
 cases hl : (notesD D).getLast? with
 | none => exact ⟨by simp, by simp, by simp, by simp, by simp⟩
 | some x =>
  have := List.mem_of_getLast? hl
  obtain ⟨n, _, hn⟩ := List.mem_flatMap.1 this
  exact h.nts n x hn
theorem tab_ne {l : List Pr} (t : TabOk l) : strL (tabL l) ≠ bs0 := fun h4 => by
 have h5 : tabL l = [] := by
  have := congrArg bl h4
  rw [bl_strL] at this
  exact this
 have h6 : framesT l (fltL l) ≠ [] := by simp [framesT]
 unfold tabL at h5
 cases hfr : framesT l (fltL l) with
 | nil => exact h6 hfr
 | cons r rs =>
  rw [hfr] at h5
  have h7 : (wrapL r).length = 0 := by
   have h8 := congrArg List.length h5
   rw [wraps_cons, List.length_append] at h8
   simp at h8
   simp [h8.1]
  have h9 := (wrapL_len (r := r) (frames_small t.tabS r (by rw [hfr]; simp))).1
  omega
theorem keeps_tab {a b : Option (ByteArray × ByteArray)} {l : List Pr} (k : Keeps a b) (t : TabOk l) (h : a = some (strL (tabL l), bs0)) : b = some (strL (tabL l), bs0) := by
 rcases k with h3 | ⟨h3, _⟩
 ·exact h3.trans h
 ·rw [h] at h3
  injection h3 with h3
  exact absurd (Prod.mk.inj h3).1 (tab_ne t)
/-- the same where it matters -/
theorem DiskOk.same {F G : Fls} {D : Disk} (h : DiskOk F D) (hl : ∀ n, 1 ≤ n → n ≤ 99999999 → Keeps (F (fnB nl n)) (G (fnB nl n))) (hn : ∀ n, 1 ≤ n → n ≤ 99999999 → Keeps (F (fnB nn n)) (G (fnB nn n))) (ht : ∀ n ∈ (lastN D).names, Keeps (F (tfN n)) (G (tfN n)))
  (ho : ∀ x, G x ≠ none → F x ≠ none ∨ ∃ n, x = tfN n) : DiskOk G D := by
 refine ⟨h.log.keep h.tops.1 hl, h.note.keep h.tops.2.2.1 hn, fun n hm => ?_, h.bat, h.nts, fun x hx hd => ?_, h.tops⟩
 ·obtain ⟨h1, h2⟩ := h.tab n hm
  exact ⟨keeps_tab (ht n hm) h2 h1, h2⟩
 ·rcases ho x hx with h1 | h1
  ·exact h.tonly x h1 hd
  ·exact h1
theorem DiskOk.crash {F G : Fls} {D : Disk} (h : DiskOk F D) (c : CrashTo F G) : DiskOk G D := by
 refine h.same (fun n n1 n9 => c.firm fun p hp => (h.log.has n p n1 n9 hp).1) (fun n n1 n9 => c.firm fun p hp => (h.note.has n p n1 n9 hp).1) (fun n hm => c.firm fun p hp => ?_) fun x hx => .inl fun hf => hx ?_
 ·rw [(h.tab n hm).1] at hp; cases hp; rfl
 ·have := c x; rw [hf] at this; exact this
end Go.Lf.G

/-
 What a store tells (chapter 9): plain law: batches, tables one behind the other, what lives.
-/
set_option maxRecDepth 100000
set_option linter.unusedVariables false
set_option linter.unusedSimpArgs false
namespace Go.Lf.G
open Go
open M (Sorted findK putL putsL refAllL findLs GoodL wrongP OkL liveL atK thereK insL)
theorem wrong_of {x : Pr} (h : PrOk x) : wrongP x = 0 := by
 have h1 : x.key ≠ (⟨#[]⟩ : ByteArray) := fun e => h.key (by rw [e]; rfl)
 have h2 := h.keyMost
 have h3 := h.valMost
 unfold M.wrongP
 rw [if_neg ?_, if_neg ?_]
 ·simp only [Bool.or_eq_true, decide_eq_true_eq]; omega
 ·simp only [Bool.or_eq_true, Bool.and_eq_true, decide_eq_true_eq, Bool.not_eq_true', decide_eq_false_iff_not]
  rintro (h4 | ⟨h4, h5⟩)
  ·exact h1 h4
  ·exact h5 (empty_str (h.gone h4))
theorem ok_of {x : Pr} (h : wrongP x = 0) : PrOk x := by
 unfold M.wrongP at h
 split at h
 ·cases h
 ·rename_i h1
  split at h
  ·cases h
  ·rename_i h2
   simp only [Bool.or_eq_true, Bool.and_eq_true, decide_eq_true_eq, Bool.not_eq_true', decide_eq_false_iff_not, not_or, not_and, Decidable.not_not] at h1 h2
   refine ⟨fun e => h1.1 (empty_str e), by omega, by omega, fun hg => ?_⟩
   rw [h1.2 hg]; rfl
theorem goodL_of {l : List Pr} (h : ∀ x ∈ l, PrOk x) : GoodL l := fun x hx => wrong_of (h x hx)
/-! ### lookups -/
theorem puts_find (k : ByteArray) : ∀ {b t : List Pr}, Sorted t → GoodL b → findK k (putsL t b) = (findK k b.reverse).or (findK k t)
 | [], t, _, _ => rfl
 | x :: b, t, s, g => by
  have gx := g x (by simp)
  show findK k (putsL (putL x t) b) = _
  rw [puts_find k (M.putL_sorted s) fun y hy => g y (List.mem_cons_of_mem _ hy), List.reverse_cons, M.findK_append, M.putL_good gx, M.ins_find x k s, M.findK_cons]
  cases findK k b.reverse with
  | some p => rfl
  | none =>
   by_cases h : x.key = k
   ·rw [if_pos h, if_pos h]; rfl
   ·rw [if_neg h, if_neg h]; rfl
def alive (o : Option Pr) : Option Pr := o.filter fun p => !p.gone
theorem alive_some (x : Pr) : alive (some x) = if x.gone then none else some x := by
 unfold alive
 cases hg : x.gone <;> simp [Option.filter, hg]
theorem live_find (k : ByteArray) : ∀ {l : List Pr}, Sorted l → findK k (liveL l) = alive (findK k l)
 | [], _ => rfl
 | x :: l, s => by
  have s' := List.pairwise_cons.1 s
  have ih := live_find k s'.2
  unfold M.liveL at ih ⊢
  rw [List.filter_cons, M.findK_cons]
  by_cases hk : x.key = k
  ·rw [if_pos hk]
   cases hg : x.gone with
   | false => rw [if_pos (by rfl), M.findK_cons, if_pos hk, alive_some, hg]; rfl
   | true =>
    rw [if_neg (by simp), ih]
    have : findK k l = none := M.findK_none fun y hy e => M.lt_ne (s'.1 y hy) (hk.trans e.symm)
    rw [this, alive_some, hg]; rfl
  ·rw [if_neg hk]
   cases hg : x.gone with
   | false => rw [if_pos (by rfl), M.findK_cons, if_neg hk]; exact ih
   | true => rw [if_neg (by simp)]; exact ih
theorem live_sorted {l : List Pr} (s : Sorted l) : Sorted (liveL l) := s.sublist List.filter_sublist
def storeL (fr : List Pr) (ts : List (List Pr)) : List Pr := liveL (refAllL (fr :: ts))
theorem store_sorted (fr : List Pr) (ts : List (List Pr)) : Sorted (storeL fr ts) := live_sorted (M.refAllL_sorted _)
theorem store_find (k : ByteArray) {fr : List Pr} {ts : List (List Pr)} (o : OkL (fr :: ts)) : findK k (storeL fr ts) = alive ((findK k fr).or (findLs k ts)) := by
 unfold storeL
 rw [live_find k (M.refAllL_sorted _), M.refAllL_find k o, M.findLs_cons]
theorem store_good {fr : List Pr} {ts : List (List Pr)} : GoodL (storeL fr ts) := fun x hx => M.refAllL_good _ x (List.mem_filter.1 hx).1
/-! ### a map that is written to -/
def wr1 (m : List Pr) (p : Pr) : List Pr := m.take (atK p.key m) ++ (if p.gone then [] else [p]) ++ m.drop (if thereK p.key m then atK p.key m + 1 else atK p.key m)
def wrL (m b : List Pr) : List Pr := b.foldl wr1 m
theorem atK_cons (k : ByteArray) (x : Pr) (l : List Pr) : atK k (x :: l) = if sLt x.key k then atK k l + 1 else 0 := by
 unfold M.atK M.lowK; rw [List.takeWhile_cons]; split <;> simp
theorem there_cons (k : ByteArray) (x : Pr) (l : List Pr) : thereK k (x :: l) = if sLt x.key k then thereK k l else decide (x.key = k) := by
 unfold M.thereK; rw [atK_cons]; by_cases h : sLt x.key k = true <;> simp [h]
def delK (k : ByteArray) (l : List Pr) : List Pr := l.filter fun q => !decide (q.key = k)
theorem del_atK {k : ByteArray} : ∀ {l : List Pr}, Sorted l → l.take (atK k l) ++ l.drop (if thereK k l then atK k l + 1 else atK k l) = delK k l
 | [], _ => by simp [delK]
 | x :: l, s => by
  have s' := List.pairwise_cons.1 s
  have ih := del_atK (k := k) s'.2
  unfold delK at ih ⊢
  rw [atK_cons, there_cons, List.filter_cons]
  by_cases hx : sLt x.key k = true
  ·have hne : x.key ≠ k := M.lt_ne hx
   have e1 : (!decide (x.key = k)) = true := by simp [hne]
   simp only [hx, if_true, e1, List.take_succ_cons, List.cons_append]
   rw [← ih]
   cases ht : thereK k l <;> simp
  ·rw [if_neg hx, if_neg hx, List.take_zero, List.nil_append]
   have hrest : l.filter (fun q => !decide (q.key = k)) = l := by
    refine List.filter_eq_self.2 fun y hy => ?_
    have h1 := s'.1 y hy
    by_cases e : y.key = k
    ·rw [e] at h1; exact absurd h1 hx
    ·simp [e]
   by_cases hk : x.key = k
   ·rw [if_pos (by simp [hk]), if_neg (by simp [hk]), hrest]; rfl
   ·rw [if_neg (by simp [hk]), if_pos (by simp [hk]), hrest]; rfl
theorem wr1_eq {m : List Pr} (s : Sorted m) (p : Pr) : wr1 m p = if p.gone then delK p.key m else M.ins p m := by
 unfold wr1
 cases hg : p.gone with
 | true => simp only [if_true, List.append_nil]; exact del_atK s
 | false =>
  simp only [Bool.false_eq_true, if_false]
  have := M.insL_eq p m
  unfold M.insL at this
  exact this
theorem del_find (k k' : ByteArray) (m : List Pr) : findK k (delK k' m) = if k' = k then none else findK k m := by
 unfold delK
 induction m with
 | nil => split <;> rfl
 | cons x m ih =>
  rw [List.filter_cons, M.findK_cons]
  by_cases hx : x.key = k'
  ·rw [if_neg (by simp [hx]), ih]
   by_cases hk : k' = k
   ·rw [if_pos hk, if_pos hk]
   ·rw [if_neg hk, if_neg hk, if_neg (fun e => hk (hx.symm.trans e))]
  ·rw [if_pos (by simp [hx]), M.findK_cons, ih]
   by_cases hk : x.key = k
   ·rw [if_pos hk, if_pos hk, if_neg (fun e => hx (hk.trans e.symm))]
   ·rw [if_neg hk, if_neg hk]
theorem wr1_sorted {m : List Pr} (s : Sorted m) (p : Pr) : Sorted (wr1 m p) := by
 rw [wr1_eq s]
 split
 ·exact s.sublist List.filter_sublist
 ·exact M.ins_sorted p s
theorem wr1_find {m : List Pr} (s : Sorted m) (p : Pr) (k : ByteArray) : findK k (wr1 m p) = if p.key = k then alive (some p) else findK k m := by
 rw [wr1_eq s]
 cases hg : p.gone with
 | true => rw [if_pos rfl, del_find, alive_some, hg]; rfl
 | false => rw [if_neg (by simp), M.ins_find p k s, alive_some, hg]; rfl
theorem wrL_sorted : ∀ {b m : List Pr}, Sorted m → Sorted (wrL m b)
 | [], _, s => s
 | p :: b, m, s => wrL_sorted (b := b) (wr1_sorted s p)
theorem wrL_find (k : ByteArray) : ∀ {b m : List Pr}, Sorted m → findK k (wrL m b) = match findK k b.reverse with | some p => alive (some p) | none => findK k m
 | [], _, _ => rfl
 | p :: b, m, s => by
  show findK k (wrL (wr1 m p) b) = _
  rw [wrL_find k (wr1_sorted s p), List.reverse_cons, M.findK_append, M.findK_cons]
  cases findK k b.reverse with
  | some q => rfl
  | none =>
   rw [wr1_find s]
   by_cases h : p.key = k
   ·rw [if_pos h, if_pos h]; rfl
   ·rw [if_neg h, if_neg h]; rfl
/-- a batch more in memory -/
theorem store_write {fr b : List Pr} {ts : List (List Pr)} (o : OkL (fr :: ts)) (g : GoodL b) : storeL (putsL fr b) ts = wrL (storeL fr ts) b := by
 have sf := o.sorted fr (by simp)
 have o2 : OkL (putsL fr b :: ts) := ⟨fun l hl => by
   rcases List.mem_cons.1 hl with rfl | hl
   ·exact M.putsL_sorted sf
   ·exact o.sorted l (by simp [hl]), fun l hl => by
   rcases List.mem_cons.1 hl with rfl | hl
   ·exact M.putsL_good (o.good fr (by simp))
   ·exact o.good l (by simp [hl])⟩
 refine (store_sorted _ _).ext (wrL_sorted (store_sorted _ _)) fun k => ?_
 rw [store_find k o2, puts_find k sf g, wrL_find k (store_sorted _ _), store_find k o]
 cases findK k b.reverse with
 | some p => rfl
 | none => rfl
theorem OkL.nil_cons {ts : List (List Pr)} (o : OkL ts) : OkL ([] :: ts) := ⟨fun l hl => by
  rcases List.mem_cons.1 hl with rfl | hl
  ·exact List.Pairwise.nil
  ·exact o.sorted l hl, fun l hl => by
  rcases List.mem_cons.1 hl with rfl | hl
  ·exact fun _ h => by cases h
  ·exact o.good l hl⟩
theorem OkL.tail {l : List Pr} {ts : List (List Pr)} (o : OkL (l :: ts)) : OkL ts := ⟨fun x hx => o.sorted x (by simp [hx]), fun x hx => o.good x (by simp [hx])⟩
/-- memory has gone into a table -/
theorem store_flush {fr : List Pr} {ts : List (List Pr)} (o : OkL (fr :: ts)) : storeL [] (fr :: ts) = storeL fr ts := by
 refine (store_sorted _ _).ext (store_sorted _ _) fun k => ?_
 rw [store_find k (OkL.nil_cons o), store_find k o, M.findLs_cons]
 rfl
theorem alive_alive (a b : Option Pr) : alive (a.or (alive b)) = alive (a.or b) := by
 cases a with
 | some p => rfl
 | none =>
  cases b with
  | none => rfl
  | some q => cases hg : q.gone <;> simp [alive_some, hg, alive]
def leftL (ts : List (List Pr)) : List Pr := liveL (refAllL ts)
theorem left_ok {ts : List (List Pr)} : Sorted (leftL ts) ∧ GoodL (leftL ts) := ⟨live_sorted (M.refAllL_sorted _), fun x hx => M.refAllL_good _ x (List.mem_filter.1 hx).1⟩
theorem OkL.left {fr : List Pr} {ts : List (List Pr)} (o : OkL (fr :: ts)) : OkL [fr, leftL ts] := ⟨fun l hl => by
  rcases List.mem_cons.1 hl with rfl | hl
  ·exact o.sorted _ (by simp)
  ·rw [List.mem_singleton.1 hl]; exact left_ok.1, fun l hl => by
  rcases List.mem_cons.1 hl with rfl | hl
  ·exact o.good _ (by simp)
  ·rw [List.mem_singleton.1 hl]; exact left_ok.2⟩
/-- all tables have become one -/
theorem store_compact {fr : List Pr} {ts : List (List Pr)} (o : OkL (fr :: ts)) : storeL fr [leftL ts] = storeL fr ts := by
 refine (store_sorted _ _).ext (store_sorted _ _) fun k => ?_
 rw [store_find k (OkL.left o), store_find k o, M.findLs_cons]
 have : findK k (leftL ts) = alive (findLs k ts) := by
  unfold leftL
  rw [live_find k (M.refAllL_sorted _), M.refAllL_find k (OkL.tail o)]
 rw [this]
 have h2 : findLs k ([] : List (List Pr)) = none := rfl
 rw [h2, Option.or_none, alive_alive]
theorem store_compact0 {fr : List Pr} {ts : List (List Pr)} (o : OkL (fr :: ts)) (h : leftL ts = []) : storeL fr [] = storeL fr ts := by
 rw [← store_compact o, h]
 have o1 : OkL [fr] := ⟨fun l hl => by rw [List.mem_singleton.1 hl]; exact o.sorted _ (by simp), fun l hl => by rw [List.mem_singleton.1 hl]; exact o.good _ (by simp)⟩
 have o2 : OkL [fr, []] := by have := OkL.left o; rw [h] at this; exact this
 refine (store_sorted _ _).ext (store_sorted _ _) fun k => ?_
 rw [store_find k o1, store_find k o2, M.findLs_cons]
 rfl
theorem live_len (l : List Pr) : (liveL l).length ≤ l.length := (List.filter_sublist).length_le
end Go.Lf.G

/-
 A store's files, step by step (chapter 9): plain law.
-/
set_option maxRecDepth 100000
set_option linter.unusedVariables false
set_option linter.unusedSimpArgs false
namespace Go.Lf.G
open Go
open M (Sorted findK putL putsL refAllL findLs GoodL wrongP OkL liveL)
/-! ### lists of segments -/
theorem flat_top {α : Type} {R : Nat → List α} {t : Nat} : ∀ {t' : Nat}, t ≤ t' → (∀ n, t ≤ n → n < t' → R n = []) → (List.range t').flatMap R = (List.range t).flatMap R
 | 0, h, _ => by
  have : t = 0 := by omega
  rw [this]
 | t' + 1, h, hr => by
  by_cases e : t = t' + 1
  ·rw [e]
  ·rw [List.range_succ, List.flatMap_append, flat_top (t' := t') (by omega) fun n h1 h2 => hr n h1 (by omega)]
   rw [List.flatMap_cons, hr t' (by omega) (by omega)]; simp
theorem flat_last {α : Type} {R : Nat → List α} {s t : Nat} (hs : s < t) (hr : ∀ n, s < n → R n = []) : (List.range t).flatMap R = (List.range s).flatMap R ++ R s := by
 rw [flat_top (t := s + 1) (by omega) fun n h1 _ => hr n (by omega), List.range_succ, List.flatMap_append]
 simp
theorem flat_congr {α : Type} {R R' : Nat → List α} {t : Nat} (h : ∀ n, n < t → R n = R' n) : (List.range t).flatMap R = (List.range t).flatMap R' := by
 unfold List.flatMap
 congr 1
 exact List.map_congr_left fun n hn => h n (List.mem_range.1 hn)
/-! ### the last note -/
theorem last_of {D : Disk} {s : Nat} {l : List Nt} {x : Nt} (h : D.N s = l ++ [x]) (hn : ∀ n, s < n → D.N n = []) (ht : s < D.ntop) : lastN D = x := by
 unfold lastN notesD
 rw [flat_last ht hn, h, ← List.append_assoc, List.getLast?_concat]; rfl
theorem DiskOk.farL {F : Fls} {D : Disk} (h : DiskOk F D) {n : Nat} (hn : n = 0 ∨ D.ltop ≤ n) : D.L n = [] := by simpa using h.log.far n hn
theorem DiskOk.farN {F : Fls} {D : Disk} (h : DiskOk F D) {n : Nat} (hn : n = 0 ∨ D.ntop ≤ n) : D.N n = [] := by simpa using h.note.far n hn
theorem DiskOk.nonL {F : Fls} {D : Disk} (h : DiskOk F D) {n : Nat} (hn : n ≤ 99999999) (hf : F (fnB nl n) = none) : D.L n = [] := by
 by_cases e : n = 0
 ·exact h.farL (.inl e)
 ·simpa using h.log.non n (by omega) hn hf
theorem DiskOk.nonN {F : Fls} {D : Disk} (h : DiskOk F D) {n : Nat} (hn : n ≤ 99999999) (hf : F (fnB nn n) = none) : D.N n = [] := by
 by_cases e : n = 0
 ·exact h.farN (.inl e)
 ·simpa using h.note.non n (by omega) hn hf
/-! ### batches -/
theorem puts_app (t a b : List Pr) : putsL t (a ++ b) = putsL (putsL t a) b := List.foldl_append
theorem nil_good : GoodL ([] : List Pr) := fun _ h => by cases h
theorem nil_sorted : Sorted ([] : List Pr) := List.Pairwise.nil
theorem fresh_ok (D : Disk) : Sorted (freshD D) ∧ GoodL (freshD D) := ⟨M.putsL_sorted nil_sorted, M.putsL_good nil_good⟩
theorem TabOk.good {l : List Pr} (t : TabOk l) : Sorted l ∧ GoodL l := ⟨t.inc, goodL_of t.ok⟩
theorem DiskOk.okL {F : Fls} {D : Disk} (h : DiskOk F D) : OkL (freshD D :: (lastN D).names.map D.T) := by
 refine ⟨fun l hl => ?_, fun l hl => ?_⟩ <;> rcases List.mem_cons.1 hl with rfl | hl
 ·exact (fresh_ok D).1
 ·obtain ⟨n, hn, rfl⟩ := List.mem_map.1 hl
  exact (h.tab n hn).2.good.1
 ·exact (fresh_ok D).2
 ·obtain ⟨n, hn, rfl⟩ := List.mem_map.1 hl
  exact (h.tab n hn).2.good.2
/-! ### a batch more -/
def addL (D : Disk) (s : Nat) (b : List Pr) : Disk := { D with L := updS D.L s (D.L s ++ [b]), ltop := max D.ltop (s + 1) }
theorem addL_bats {F : Fls} {D : Disk} (h : DiskOk F D) {s : Nat} {b : List Pr} (hs : (lastN D).frm ≤ s) (hn : ∀ n, s < n → D.L n = []) : batsD (addL D s b) = batsD D ++ [b] := by
 have hst : s < max D.ltop (s + 1) := by omega
 have e1 : batsD D = (List.range s).flatMap (fun n => if n < (lastN D).frm then [] else D.L n) ++ D.L s := by
  have e0 : batsD D = (List.range (max D.ltop (s + 1))).flatMap fun n => if n < (lastN D).frm then [] else D.L n := by
   refine (flat_top (by omega) fun n h1 h2 => ?_).symm
   split
   ·rfl
   ·exact h.farL (.inr h1)
  rw [e0, flat_last (s := s) hst (fun n hn' => by
   split
   ·rfl
   ·exact hn n hn'), if_neg (by omega)]
 have e2 : batsD (addL D s b) = (List.range s).flatMap (fun n => if n < (lastN D).frm then [] else updS D.L s (D.L s ++ [b]) n) ++ updS D.L s (D.L s ++ [b]) s := by
  show (List.range (max D.ltop (s + 1))).flatMap (fun n => if n < (lastN D).frm then [] else updS D.L s (D.L s ++ [b]) n) = _
  rw [flat_last (s := s) hst (fun n hn' => by
   split
   ·rfl
   ·rw [updS_ne (by omega)]; exact hn n hn'), if_neg (by omega)]
 rw [e1, e2, updS_self, List.append_assoc]
 congr 1
 exact flat_congr fun n hn' => by rw [updS_ne (by omega)]
theorem addL_map {F : Fls} {D : Disk} (h : DiskOk F D) {s : Nat} {b : List Pr} (hs : (lastN D).frm ≤ s) (hn : ∀ n, s < n → D.L n = []) (hb : BatOk b) : freshD (addL D s b) = putsL (freshD D) b ∧ mapD (addL D s b) = wrL (mapD D) b := by
 have e : freshD (addL D s b) = putsL (freshD D) b := by
  unfold freshD
  rw [addL_bats h hs hn, List.flatten_append, puts_app]
  simp
 refine ⟨e, ?_⟩
 have := store_write h.okL (goodL_of hb.ok)
 unfold mapD
 rw [e]
 exact this
theorem addL_ok {F G : Fls} {D : Disk} (h : DiskOk F D) {s : Nat} {b : List Pr} (hs : 1 ≤ s ∧ s + 1 ≤ 99999999) (hb : BatOk b) (hl : ∀ n, 1 ≤ n → n ≤ 99999999 → n ≠ s → Keeps (F (fnB nl n)) (G (fnB nl n))) (hn : ∀ n, 1 ≤ n → n ≤ 99999999 → Keeps (F (fnB nn n)) (G (fnB nn n)))
  (ht : ∀ n, Keeps (F (tfN n)) (G (tfN n))) (ho : ∀ x, (∀ n, x ≠ fnB nl n) → G x ≠ none → F x ≠ none) (hv : ∃ x, G (fnB nl s) = some (x, bs0) ∧ Scan (bl x) ((D.L s ++ [b]).map (batchL s))) : DiskOk G (addL D s b) := by
 have ht' : ∀ n ∈ (lastN D).names, G (tfN n) = some (strL (tabL (D.T n)), bs0) ∧ TabOk (D.T n) := fun n hm =>
  let ⟨h1, h2⟩ := h.tab n hm
  ⟨keeps_tab (ht n) h2 h1, h2⟩
 refine ⟨?_, ?_, ht', fun n c hc => ?_, h.nts, fun x hx hd => ?_, by have := h.tops; refine ⟨?_, ?_, this.2.2.1, this.2.2.2⟩ <;> simp only [addL] <;> omega⟩
 ·have := h.log.put (G := G) (top' := max D.ltop (s + 1)) (s := s) (v := (D.L s ++ [b]).map (batchL s)) ⟨hs.1, by omega⟩ (by omega) (fun n n1 n9 hne => hl n n1 n9 hne) (.inr hv) (by omega)
  have e : (updS (fun n => (D.L n).map (batchL n)) s ((D.L s ++ [b]).map (batchL s))) = fun n => ((addL D s b).L n).map (batchL n) := by
   funext n
   show _ = (updS D.L s (D.L s ++ [b]) n).map (batchL n)
   by_cases e : n = s
   ·subst e; rw [updS_self, updS_self]
   ·rw [updS_ne e, updS_ne e]
  rw [e] at this
  exact this
 ·exact h.note.keep h.tops.2.2.1 hn
 ·by_cases e : n = s
  ·subst e
   have hc : c ∈ updS D.L n (D.L n ++ [b]) n := hc
   rw [updS_self] at hc
   rcases List.mem_append.1 hc with hc | hc
   ·exact h.bat n c hc
   ·rw [List.mem_singleton.1 hc]; exact hb
  ·have hc : c ∈ updS D.L s (D.L s ++ [b]) n := hc
   rw [updS_ne e] at hc
   exact h.bat n c hc
 ·exact h.tonly x (ho x (fun n e => by rw [e, fnl_head] at hd; cases hd) hx) hd
/-! ### a note more -/
def addN (D : Disk) (s : Nat) (x : Nt) (T : Nat → List Pr) : Disk := { D with N := updS D.N s [x], T := T, ntop := max D.ntop (s + 1) }
theorem addN_last {D : Disk} {s : Nat} {x : Nt} {T : Nat → List Pr} (hn : ∀ n, s < n → D.N n = []) : lastN (addN D s x T) = x := by
 refine last_of (s := s) (l := []) ?_ (fun n h => ?_) ?_
 ·show updS D.N s [x] s = _
  rw [updS_self]; rfl
 ·show updS D.N s [x] n = []
  rw [updS_ne (by omega)]; exact hn n h
 ·show s < max D.ntop (s + 1)
  omega
theorem addN_ok {F G : Fls} {D : Disk} (h : DiskOk F D) {s : Nat} {x : Nt} {T : Nat → List Pr} (hs : 1 ≤ s ∧ s + 1 ≤ 99999999) (hx : NtOk x) (hn0 : ∀ n, s < n → D.N n = []) (hl : ∀ n, 1 ≤ n → n ≤ 99999999 → Keeps (F (fnB nl n)) (G (fnB nl n))) (hn : ∀ n, 1 ≤ n → n ≤ 99999999 → n ≠ s → Keeps (F (fnB nn n)) (G (fnB nn n)))
  (ht : ∀ n ∈ x.names, G (tfN n) = some (strL (tabL (T n)), bs0) ∧ TabOk (T n)) (ho : ∀ x, (∀ n, x ≠ fnB nn n) → (∀ n, x ≠ tfN n) → G x ≠ none → F x ≠ none) (hv : ∃ y, G (fnB nn s) = some (y, bs0) ∧ Scan (bl y) [noteL x]) : DiskOk G (addN D s x T) := by
 refine ⟨h.log.keep h.tops.1 hl, ?_, fun n hm => ?_, h.bat, fun n y hy => ?_, fun y hy hd => ?_, by have := h.tops; refine ⟨this.1, this.2.1, ?_, ?_⟩ <;> simp only [addN] <;> omega⟩
 ·have := h.note.put (G := G) (top' := max D.ntop (s + 1)) (s := s) (v := [noteL x]) ⟨hs.1, by omega⟩ (by omega) (fun n n1 n9 hne => hn n n1 n9 hne) (.inr hv) (by omega)
  have e : (updS (fun n => (D.N n).map noteL) s [noteL x]) = fun n => ((addN D s x T).N n).map noteL := by
   funext n
   show _ = (updS D.N s [x] n).map noteL
   by_cases e : n = s
   ·subst e; rw [updS_self, updS_self]; rfl
   ·rw [updS_ne e, updS_ne e]
  rw [e] at this
  exact this
 ·rw [addN_last hn0] at hm
  exact ht n hm
 ·have hy : y ∈ updS D.N s [x] n := hy
  by_cases e : n = s
  ·rw [e, updS_self] at hy
   rw [List.mem_singleton.1 hy]; exact hx
  ·rw [updS_ne e] at hy; exact h.nts n y hy
 ·by_cases e : ∃ n, y = tfN n
  ·exact e
  ·exact h.tonly y (ho y (fun n e => by rw [e, fnn_head] at hd; cases hd) (fun n e' => e ⟨n, e'⟩) hy) hd
/-! ### files that aren't named -/
theorem DiskOk.tput {F G : Fls} {D : Disk} (h : DiskOk F D) (hk : ∀ x, (∀ n, n ∉ (lastN D).names → x ≠ tfN n) → G x = F x) : DiskOk G D := by
 refine h.same (fun n _ _ => .inl (hk _ fun k _ => lt_ne' n k)) (fun n _ _ => .inl (hk _ fun k _ => nt_ne n k)) (fun n hn => .inl (hk _ fun k hk' e => hk' (by rw [← tfN_inj e]; exact hn))) fun x hx => ?_
 by_cases e : ∃ n, x = tfN n
 ·exact .inr e
 ·exact .inl (by rw [← hk x fun n _ e' => e ⟨n, e'⟩]; exact hx)
/-! ### segments that are dropped -/
open Classical in
noncomputable def dropL (D : Disk) (G : Fls) : Disk := { D with L := fun n => if n ≤ 99999999 ∧ G (fnB nl n) = none then [] else D.L n }
open Classical in
noncomputable def dropN (D : Disk) (G : Fls) : Disk := { D with N := fun n => if n ≤ 99999999 ∧ G (fnB nn n) = none then [] else D.N n }
theorem dropL_bats {D : Disk} {F G : Fls} (h : DiskOk F D) (hk : ∀ n, n ≤ 99999999 → G (fnB nl n) = F (fnB nl n) ∨ (G (fnB nl n) = none ∧ n < (lastN D).frm)) : batsD (dropL D G) = batsD D := by
 unfold batsD
 refine flat_congr fun n hn => ?_
 show (if n < (lastN D).frm then [] else if n ≤ 99999999 ∧ G (fnB nl n) = none then [] else D.L n) = _
 by_cases e : n < (lastN D).frm
 ·rw [if_pos e, if_pos e]
 ·rw [if_neg e, if_neg e]
  split
  ·rename_i h1
   rcases hk n h1.1 with h2 | h2
   ·rw [h2] at h1; exact (h.nonL h1.1 h1.2).symm
   ·exact absurd h2.2 e
  ·rfl
theorem dropL_ok {F G : Fls} {D : Disk} (h : DiskOk F D) (hk : ∀ n, n ≤ 99999999 → G (fnB nl n) = F (fnB nl n) ∨ (G (fnB nl n) = none ∧ n < (lastN D).frm)) (ho : ∀ x, (∀ n, n ≤ 99999999 → x ≠ fnB nl n) → G x = F x) : DiskOk G (dropL D G) := by
 refine ⟨h.log.drop (fun n n9 => ?_) (fun n hn => ?_), h.note.keep h.tops.2.2.1 fun n n1 n9 => .inl (ho _ fun k _ e => ln_ne k n e.symm), fun n hn => ?_, fun n b hb => ?_, h.nts, fun x hx hd => ?_, h.tops⟩
 ·show _ ∨ (G (fnB nl n) = none ∧ ((if n ≤ 99999999 ∧ G (fnB nl n) = none then [] else D.L n).map (batchL n)) = [])
  rcases hk n n9 with h1 | h1
  ·by_cases h2 : G (fnB nl n) = none
   ·right; exact ⟨h2, by rw [if_pos ⟨n9, h2⟩]; rfl⟩
   ·left
    refine ⟨h1, ?_⟩
    show ((if n ≤ 99999999 ∧ G (fnB nl n) = none then [] else D.L n).map (batchL n)) = _
    rw [if_neg fun hh => h2 hh.2]
  ·right; exact ⟨h1.1, by rw [if_pos ⟨n9, h1.1⟩]; rfl⟩
 ·show ((if n ≤ 99999999 ∧ G (fnB nl n) = none then [] else D.L n).map (batchL n)) = []
  split
  ·rfl
  ·rw [h.farL hn]; rfl
 ·rw [ho _ fun k _ e => lt_ne' k n e.symm]; exact h.tab n hn
 ·have hb : b ∈ (if n ≤ 99999999 ∧ G (fnB nl n) = none then [] else D.L n) := hb
  split at hb
  ·cases hb
  ·exact h.bat n b hb
 ·exact h.tonly x (by rw [← ho x fun n _ e => by rw [e, fnl_head] at hd; cases hd]; exact hx) hd
theorem dropN_last {D : Disk} {G : Fls} {s : Nat} {x : Nt} (hs : D.N s = [x]) (hn : ∀ n, s < n → D.N n = []) (ht : s < D.ntop) (hg : G (fnB nn s) ≠ none) : lastN (dropN D G) = x := by
 refine last_of (s := s) (l := []) ?_ (fun n h => ?_) ht
 ·show (if s ≤ 99999999 ∧ G (fnB nn s) = none then [] else D.N s) = _
  rw [if_neg fun h => hg h.2]; exact hs
 ·show (if n ≤ 99999999 ∧ G (fnB nn n) = none then [] else D.N n) = []
  split
  ·rfl
  ·exact hn n h
theorem dropN_ok {F G : Fls} {D : Disk} (h : DiskOk F D) {s : Nat} {x : Nt} (hs : D.N s = [x]) (hn : ∀ n, s < n → D.N n = []) (ht : s < D.ntop) (hg : G (fnB nn s) ≠ none) (hk : ∀ n, n ≤ 99999999 → G (fnB nn n) = F (fnB nn n) ∨ G (fnB nn n) = none) (ho : ∀ x, (∀ n, n ≤ 99999999 → x ≠ fnB nn n) → G x = F x) : DiskOk G (dropN D G) := by
 have hl : lastN (dropN D G) = lastN D := by rw [dropN_last hs hn ht hg, last_of (l := []) hs hn ht]
 refine ⟨h.log.keep h.tops.1 fun n n1 n9 => .inl (ho _ fun k _ e => ln_ne n k e), h.note.drop (fun n n9 => ?_) (fun n hn => ?_), fun n hm => ?_, h.bat, fun n b hb => ?_, fun x hx hd => ?_, h.tops⟩
 ·rcases hk n n9 with h1 | h1
  ·by_cases h2 : G (fnB nn n) = none
   ·right; refine ⟨h2, ?_⟩
    show ((if n ≤ 99999999 ∧ G (fnB nn n) = none then [] else D.N n).map noteL) = []
    rw [if_pos ⟨n9, h2⟩]; rfl
   ·left
    refine ⟨h1, ?_⟩
    show ((if n ≤ 99999999 ∧ G (fnB nn n) = none then [] else D.N n).map noteL) = _
    rw [if_neg fun hh => h2 hh.2]
  ·right; refine ⟨h1, ?_⟩
   show ((if n ≤ 99999999 ∧ G (fnB nn n) = none then [] else D.N n).map noteL) = []
   rw [if_pos ⟨n9, h1⟩]; rfl
 ·show ((if n ≤ 99999999 ∧ G (fnB nn n) = none then [] else D.N n).map noteL) = []
  split
  ·rfl
  ·rw [h.farN hn]; rfl
 ·rw [hl] at hm
  rw [ho _ fun k _ e => nt_ne k n e.symm]; exact h.tab n hm
 ·have hb : b ∈ (if n ≤ 99999999 ∧ G (fnB nn n) = none then [] else D.N n) := hb
  split at hb
  ·cases hb
  ·exact h.nts n b hb
 ·exact h.tonly x (by rw [← ho x fun n _ e => by rw [e, fnn_head] at hd; cases hd]; exact hx) hd
/-! ### a note that is written, as the box gives out -/
/-- what the files say then -/
structure Nxt (D : Disk) (s : Nat) (x : Nt) (T : Nat → List Pr) (D' : Disk) : Prop where
 L : D'.L = D.L
 ltop : D'.ltop = D.ltop
 ntop : D'.ntop ≤ max D.ntop (s + 1)
 last : (lastN D' = lastN D ∧ D'.T = D.T) ∨ (lastN D' = x ∧ D'.T = T)
theorem nxt_addN {D : Disk} {s : Nat} {x : Nt} {T : Nat → List Pr} (hn : ∀ n, s < n → D.N n = []) : Nxt D s x T (addN D s x T) := ⟨rfl, rfl, Nat.le_refl _, .inr ⟨addN_last hn, rfl⟩⟩
theorem nxt_self {D : Disk} {s : Nat} {x : Nt} {T : Nat → List Pr} : Nxt D s x T D := ⟨rfl, rfl, by omega, .inl ⟨rfl, rfl⟩⟩
theorem note_scan {x : Nt} (h : NtOk x) (hs : (noteL x).length ≤ 1048576) : Scan (bl (strL (wrapL (noteL x)))) [noteL x] := by
 rw [bl_strL]
 have := scan_wraps (rs := [noteL x]) (fun r hr => by rw [List.mem_singleton.1 hr]; exact hs) (t := []) next_nil
 simpa using this
theorem note_firm {F F1 : Fls} {D : Disk} {s : Nat} {x : Nt} {T : Nat → List Pr} (h : DiskOk F D) (hs : 1 ≤ s ∧ s + 1 ≤ 99999999) (hx : NtOk x) (hl : (noteL x).length ≤ 1048576) (hn0 : ∀ n, s ≤ n → n ≤ 99999999 → F (fnB nn n) = none)
  (ht : ∀ n ∈ x.names, F (tfN n) = some (strL (tabL (T n)), bs0) ∧ TabOk (T n)) (hF1 : ∀ y, F1 y = if y = fnB nn s then some (strL (wrapL (noteL x)), bs0) else F y) : DiskOk F1 (addN D s x T) ∧ ∀ n, s < n → D.N n = [] := by
 have hN : ∀ n, s < n → D.N n = [] := fun n hn => by
  by_cases h9 : n ≤ 99999999
  ·exact h.nonN h9 (hn0 n (by omega) h9)
  ·exact h.farN (.inr (by have := h.tops; omega))
 refine ⟨addN_ok h hs hx hN (fun n _ _ => .inl ?_) (fun n _ _ hne => .inl ?_) (fun n hn => ?_) (fun y h1 _ hy => ?_) ⟨_, by rw [hF1, if_pos rfl], note_scan hx hl⟩, hN⟩
 ·rw [hF1, if_neg (ln_ne n s)]
 ·rw [hF1, if_neg fun e => hne (fnB_inj e)]
 ·rw [hF1, if_neg fun e => nt_ne s n e.symm]; exact ht n hn
 ·rw [hF1, if_neg (h1 s)] at hy; exact hy
theorem note_torn {F F1 G : Fls} {D : Disk} {s : Nat} {x : Nt} {T : Nat → List Pr} (h : DiskOk F D) (hs : 1 ≤ s ∧ s + 1 ≤ 99999999) (hx : NtOk x) (hl : (noteL x).length ≤ 1048576) (hn0 : ∀ n, s ≤ n → n ≤ 99999999 → F (fnB nn n) = none)
  (ht : ∀ n ∈ x.names, F (tfN n) = some (strL (tabL (T n)), bs0) ∧ TabOk (T n)) (hF1 : ∀ y, F1 y = if y = fnB nn s then some (bs0, strL (wrapL (noteL x))) else F y) (c : CrashTo F1 G) : ∃ D', DiskOk G D' ∧ Nxt D s x T D' := by
 have hN : ∀ n, s < n → D.N n = [] := fun n hn => by
  by_cases h9 : n ≤ 99999999
  ·exact h.nonN h9 (hn0 n (by omega) h9)
  ·exact h.farN (.inr (by have := h.tops; omega))
 have hNs : D.N s = [] := h.nonN (by omega) (hn0 s (Nat.le_refl _) (by omega))
 have kl : ∀ n, 1 ≤ n → n ≤ 99999999 → Keeps (F (fnB nl n)) (G (fnB nl n)) := fun n n1 n9 => by
  have e : F1 (fnB nl n) = F (fnB nl n) := by rw [hF1, if_neg (ln_ne n s)]
  have := c.firm (x := fnB nl n) fun p hp => (h.log.has n p n1 n9 (e ▸ hp)).1
  rwa [e] at this
 have kn : ∀ n, 1 ≤ n → n ≤ 99999999 → n ≠ s → Keeps (F (fnB nn n)) (G (fnB nn n)) := fun n n1 n9 hne => by
  have e : F1 (fnB nn n) = F (fnB nn n) := by rw [hF1, if_neg fun e => hne (fnB_inj e)]
  have := c.firm (x := fnB nn n) fun p hp => (h.note.has n p n1 n9 (e ▸ hp)).1
  rwa [e] at this
 have kt : ∀ n l, F (tfN n) = some (strL (tabL l), bs0) → TabOk l → G (tfN n) = some (strL (tabL l), bs0) := fun n l hf t => by
  have e : F1 (tfN n) = F (tfN n) := by rw [hF1, if_neg fun e => nt_ne s n e.symm]
  have := c.firm (x := tfN n) fun p hp => by rw [e, hf] at hp; cases hp; rfl
  rw [e] at this
  exact keeps_tab this t hf
 have ko : ∀ y, (∀ n, y ≠ fnB nn n) → G y ≠ none → F y ≠ none := fun y hy hg hf => hg (by
  have := c y
  rw [hF1, if_neg (hy s), hf] at this
  exact this)
 have hc := c (fnB nn s)
 rw [hF1, if_pos rfl] at hc
 obtain ⟨j, hj⟩ := hc
 have tr := torn_or (rs := []) (r := noteL x) (fun r hr => by rw [List.nil_append] at hr; rw [List.mem_singleton.1 hr]; exact hl) j
 have e0 : strL (wraps []) = bs0 := rfl
 rw [e0] at tr
 have old : (G (fnB nn s) = none ∨ ∃ y, G (fnB nn s) = some (y, bs0) ∧ Scan (bl y) []) → ∃ D', DiskOk G D' ∧ Nxt D s x T D' := fun hv => by
  have e1 : notesD { D with ntop := max D.ntop (s + 1) } = notesD D := flat_top (by show D.ntop ≤ max D.ntop (s + 1); omega) fun n h1 _ => h.farN (.inr h1)
  have e2 : lastN { D with ntop := max D.ntop (s + 1) } = lastN D := by unfold lastN; rw [e1]
  refine ⟨{ D with ntop := max D.ntop (s + 1) }, ⟨h.log.keep h.tops.1 kl, ?_, fun n hm => ?_, h.bat, h.nts, fun y hy hd => ?_, by have := h.tops; refine ⟨this.1, this.2.1, ?_, ?_⟩ <;> simp only [] <;> omega⟩, ⟨rfl, rfl, Nat.le_refl _, .inl ⟨e2, rfl⟩⟩⟩
  ·have := h.note.put (G := G) (top' := max D.ntop (s + 1)) (s := s) (v := []) ⟨hs.1, by omega⟩ (by omega) (fun n n1 n9 hne => kn n n1 n9 hne) (hv.imp (fun h => ⟨h, rfl⟩) fun h => h) (by omega)
   have e : (updS (fun n => (D.N n).map noteL) s []) = fun n => (D.N n).map noteL := by
    funext n
    by_cases e : n = s
    ·subst e; rw [updS_self, hNs]; rfl
    ·rw [updS_ne e]
   rw [e] at this
   exact this
  ·rw [e2] at hm
   obtain ⟨h1, h2⟩ := h.tab n hm
   exact ⟨kt n _ h1 h2, h2⟩
  ·exact h.tonly y (ko y (fun n e => by rw [e, fnn_head] at hd; cases hd) hy) hd
 split at hj
 ·exact old (.inl hj)
 ·rcases tr with tr | tr
  ·exact old (.inr ⟨_, hj, tr⟩)
  ·exact ⟨_, addN_ok h hs hx hN kl kn (fun n hn => ⟨kt n _ (ht n hn).1 (ht n hn).2, (ht n hn).2⟩) (fun y h1 _ hy => ko y h1 hy) ⟨_, hj, tr⟩, nxt_addN hN⟩
/-- older notes' segments go -/
theorem nxt_drop {F G : Fls} {D : Disk} {s : Nat} {x : Nt} {T : Nat → List Pr} (h : DiskOk F (addN D s x T)) (hN : ∀ n, s < n → D.N n = []) (hs : F (fnB nn s) ≠ none) (hk : ∀ y, G y = F y ∨ (G y = none ∧ ∃ n, n < s ∧ n ≤ 99999999 ∧ y = fnB nn n)) : ∃ D', DiskOk G D' ∧ lastN D' = x ∧ D'.T = T ∧ D'.L = D.L ∧ D'.ltop = D.ltop ∧ D'.ntop = max D.ntop (s + 1) := by
 have e1 : (addN D s x T).N s = [x] := by show updS D.N s [x] s = _; rw [updS_self]
 have e2 : ∀ n, s < n → (addN D s x T).N n = [] := fun n hn => by show updS D.N s [x] n = _; rw [updS_ne (by omega)]; exact hN n hn
 have e3 : s < (addN D s x T).ntop := by show s < max D.ntop (s + 1); omega
 have hg : G (fnB nn s) ≠ none := by
  rcases hk (fnB nn s) with h1 | ⟨_, n, h1, _, h2⟩
  ·rw [h1]; exact hs
  ·have := fnB_inj h2; omega
 refine ⟨dropN (addN D s x T) G, dropN_ok h e1 e2 e3 hg (fun n n9 => ?_) fun y hy => ?_, dropN_last e1 e2 e3 hg, rfl, rfl, rfl, rfl⟩
 ·rcases hk (fnB nn n) with h1 | h1
  ·exact .inl h1
  ·exact .inr h1.1
 ·rcases hk y with h1 | ⟨_, n, _, h9, h2⟩
  ·exact h1
  ·exact absurd h2 (hy n h9)
end Go.Lf.G

