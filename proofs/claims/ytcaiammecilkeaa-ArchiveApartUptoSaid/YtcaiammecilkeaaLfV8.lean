/-
  Contracts: the archive (chapter 20) over a box that is not down and has no end of fuel.
-/
import Derived.Test.YtcaiammecilkeaaLfV7
import Derived.Test.YtcaiammecilkeaaLfB1
import Derived.Test.YtcaiammecilkeaaLfU13
set_option maxRecDepth 100000
set_option linter.unusedVariables false
set_option linter.unusedSimpArgs false
namespace Go.Lf.G
open Go

/-! ### a calm box -/
def Calm (m : Bx) : Prop := m.down = false ∧ m.fuel = -1
def fileB (m : Bx) (k : ByteArray) : Option ByteArray := (findF k m.files).map fun f => f.firm ++ f.soft
theorem calm_tick {m : Bx} (c : Calm m) : tickB m = m := by unfold tickB; rw [if_neg (by rw [c.2]; decide)]
theorem calm_new : Calm newB := ⟨rfl, rfl⟩
theorem file_new (k : ByteArray) : fileB newB k = none := rfl
theorem calm_read {m : Bx} (c : Calm m) (k : ByteArray) : readB m k = match fileB m k with | none => (bs0, 31) | some s => (s, 0) := by
  unfold readB fileB
  rw [if_neg (by simp [c.1])]
  cases findF k m.files <;> rfl
theorem calm_delete {m : Bx} (c : Calm m) (k : ByteArray) : ((deleteB m k).1 = 0 ∨ (deleteB m k).1 = 31) ∧ Calm (deleteB m k).2 ∧ ∀ x, fileB (deleteB m k).2 x = if x = k then none else fileB m x := by
  unfold deleteB
  rw [if_neg (by simp [c.1]), calm_tick c]
  cases hf : findF k m.files with
  | none =>
    refine ⟨.inr rfl, c, fun x => ?_⟩
    by_cases hx : x = k
    · subst hx; simp [fileB, hf]
    · rw [if_neg hx]; rfl
  | some f =>
    rw [if_neg (by simp), if_neg (by rw [c.2]; decide)]
    refine ⟨.inl rfl, ⟨c.1, c.2⟩, fun x => ?_⟩
    simp only [fileB, findF_del]
    split <;> rfl
theorem find_have {k x : ByteArray} (l : List Fi) : findF x (haveF k l) = if x = k then some ((findF k l).getD ⟨k, bs0, bs0⟩) else findF x l := by
  unfold haveF
  cases hf : findF k l with
  | some f =>
    simp only [Option.isSome_some, if_true]
    by_cases hx : x = k
    · subst hx; simp [hf]
    · rw [if_neg hx]
  | none =>
    rw [if_neg (by simp), findF_ins (fun y hy => findF_none hf y hy)]
    by_cases hx : x = k
    · subst hx; simp
    · rw [if_neg hx, if_neg (fun h => hx h.symm)]
theorem calm_append {m : Bx} (c : Calm m) {k d : ByteArray} (hk : badName k = false) : (appendB m k d).1 = 0 ∧ Calm (appendB m k d).2 ∧ ∀ x, fileB (appendB m k d).2 x = if x = k then some ((fileB m k).getD bs0 ++ d) else fileB m x := by
  unfold appendB
  rw [if_neg (by simp [c.1]), if_neg (by simp [hk]), if_neg (by rw [c.2]; decide), calm_tick c]
  refine ⟨rfl, ⟨c.1, c.2⟩, fun x => ?_⟩
  simp only [fileB]
  rw [findF_upd (g := addF d) (fun _ => rfl), find_have]
  by_cases hx : x = k
  · subst hx
    rw [if_pos rfl, if_pos rfl]
    cases hf : findF x m.files with
    | none => simp [addF, nil_app, app_nil]
    | some f =>
      have := (findF_some hf).1
      simp [addF, this, ByteArray.append_assoc]
  · rw [if_neg hx, if_neg hx]
    cases hf : findF x m.files with
    | none => rfl
    | some f =>
      have := (findF_some hf).1
      simp only [Option.map_some]
      rw [if_neg (by rw [this]; exact hx)]
theorem calm_sync {m : Bx} (c : Calm m) {k : ByteArray} (hk : (fileB m k).isSome = true) : (syncB m k).1 = 0 ∧ Calm (syncB m k).2 ∧ ∀ x, fileB (syncB m k).2 x = fileB m x := by
  unfold syncB
  have hf : (findF k m.files).isNone = false := by
    unfold fileB at hk
    cases hf : findF k m.files with
    | none => rw [hf] at hk; cases hk
    | some f => rfl
  rw [if_neg (by simp [c.1]), if_neg (by simp [hf]), if_neg (by rw [c.2]; decide), calm_tick c]
  refine ⟨rfl, ⟨c.1, c.2⟩, fun x => ?_⟩
  simp only [fileB]
  rw [findF_upd (g := firmF) (fun _ => rfl)]
  cases findF x m.files with
  | none => rfl
  | some f =>
    simp only [Option.map_some]
    split <;> simp [firmF, app_nil]

/-! ### the archive -/
def zn (w : ByteArray) : ByteArray := (⟨#[122]⟩ : ByteArray) ++ w
theorem zn_size (w : ByteArray) : (zn w).size = 1 + w.size := by unfold zn; rw [ByteArray.size_append]; rfl
theorem zn_inj {a b : ByteArray} (h : zn a = zn b) : a = b := by
  have := congrArg (fun s : ByteArray => s.data.toList) h
  simp [zn, ByteArray.data_append] at this
  apply ByteArray.ext
  exact Array.toList_inj.1 (by simpa using this)
theorem zn_good {w : ByteArray} (h : nameOK w = true) : badName (zn w) = false := by
  have h1 := nameOK_iff.1 h
  have h2 := zn_size w
  unfold badName
  rw [Bool.or_eq_false_iff, decide_eq_false_iff_not, decide_eq_false_iff_not]
  refine ⟨fun h3 => ?_, by omega⟩
  rw [h3] at h2
  have : bs0.size = 0 := rfl
  omega
/-- errno, and a history that was kept -/
def readA (m : Bx) (w : ByteArray) : Int × List Ev :=
  if nameOK w = true then
    if (readB m (zn w)).2 ≠ 0 then ((readB m (zn w)).2, [])
    else if (nextL (bl (readB m (zn w)).1)).1 ≠ 0 then ((nextL (bl (readB m (zn w)).1)).1, [])
    else if (nextL (bl (readB m (zn w)).1)).2.2 ≠ [] then (60, [])
    else match unpackEv (nextL (bl (readB m (zn w)).1)).2.1 with | none => (60, []) | some l => (0, l)
  else (1, [])
theorem aFile_ok {A : Amb} {h : Heap} {w : ByteArray} {R : Value → Heap → Prop} (hw : w.size ≤ 1099511627776) (H : R (.string (zn w)) h) : HCalls A P f_archive_File #[.string w] h R := by
  refine ok_archive_File ?_
  unfold F_archive_File
  exact ⟨by have : (⟨#[122]⟩ : ByteArray).size = 1 := rfl; rw [max_i64]; omega, H⟩
theorem read_size {m : Bx} (k : ByteArray) : (readB m k).1.size ≤ wtF m.files := by
  unfold readB
  split
  · exact Nat.zero_le _
  · cases hf : findF k m.files with
    | none => exact Nat.zero_le _
    | some f =>
      have := wtF_mem (findF_some hf).2
      simp only [ByteArray.size_append]
      exact this
theorem fNext_ok' {A : Amb} {h : Heap} {s : ByteArray} {R : Value → Heap → Prop} (hl : s.size ≤ 1099511627776)
    (H : ∀ h', Ext h h' → R (.tuple #[.string (strL (nextL (bl s)).2.1), .string (strL (nextL (bl s)).2.2), .int .i64 ((nextL (bl s)).1 : Int)]) h') : HCalls A P f_frame_Next #[.string s] h R := by
  have := fNext_ok (A := A) (h := h) (l := bl s) (R := R) (by rw [bl_size]; exact hl) H
  rwa [strL_bl] at this
theorem next_len (l : List UInt8) : (nextL l).2.1.length ≤ l.length := by
  unfold nextL
  cases hg : getV 0 0 l with
  | none => dsimp only; split <;> exact Nat.zero_le _
  | some p =>
    obtain ⟨n, t⟩ := p
    obtain ⟨e, _⟩ := getV0 hg
    have ht : t.length ≤ l.length := by rw [e]; simp
    dsimp only
    split
    · exact Nat.zero_le _
    · split
      · exact Nat.zero_le _
      · split
        · simp; omega
        · exact Nat.zero_le _
theorem aEvents_ok {A : Amb} {h : Heap} {ab b : Nat} {S : Nat → Prop} {m : Bx} {w : ByteArray} {T : TypeId} {R : Value → Heap → Prop} (ha : h[ab]? = some (.cells #[ptrV b] T (0, 0))) (B : IsBox h b S m) (hw : wtF m.files < 1099511627776) (hws : w.size ≤ 1099511627776)
    (H : ∀ h' s, Ext h h' → View EvE h' s (readA m w).2 → (readA m w).2.length ≤ 500 → R (.tuple #[.slice s.p s.len s.cap, .int .i64 (readA m w).1]) h') : HCalls A P f_archive_Archive_Events #[ptrV ab, .string w] h R := by
  refine ok_archive_Archive_Events ?_
  unfold F_archive_Archive_Events
  have none_ok : ∀ h' (n : Int), Ext h h' → readA m w = (n, []) → R (.tuple #[.slice none 0 0, .int .i64 n]) h' := fun h' n x e => by
    have := H h' ⟨none, 0, 0⟩ x (by rw [e]; exact View.nil) (by rw [e]; exact Nat.zero_le _)
    rw [e] at this
    exact this
  refine Join.mk fun K hK => PIf.no rfl (pNamed_ok ⟨_, rfl, hK _ _ ?_⟩)
  have hr : readA m w = if nameOK w = true then
    if (readB m (zn w)).2 ≠ 0 then ((readB m (zn w)).2, [])
    else if (nextL (bl (readB m (zn w)).1)).1 ≠ 0 then ((nextL (bl (readB m (zn w)).1)).1, [])
    else if (nextL (bl (readB m (zn w)).1)).2.2 ≠ [] then (60, [])
    else match unpackEv (nextL (bl (readB m (zn w)).1)).2.1 with | none => (60, []) | some l => (0, l)
    else (1, []) := rfl
  cases hn : nameOK w with
  | false =>
    rw [hn, if_neg (by decide)] at hr
    exact PIf.yes rfl (none_ok h 1 Mod.refl hr)
  | true =>
    rw [hn, if_pos rfl] at hr
    refine PIf.no rfl (atI (LoadP.mk (hget_lit ha rfl) (aFile_ok hws ⟨_, rfl, hget_lit ha rfl, ?_⟩)))
    refine bRead_ok B ⟨_, _, rfl, ?_⟩
    refine PIf.intro (fun q => ?_) (fun q => ?_)
    · have q : (readB m (zn w)).2 ≠ 0 := by simpa using q
      rw [if_pos q] at hr
      exact none_ok h _ Mod.refl hr
    have q : ¬ (readB m (zn w)).2 ≠ 0 := by simpa using q
    rw [if_neg q] at hr
    have hsz := read_size (m := m) (zn w)
    refine fNext_ok' (by omega) fun h1 x1 => ⟨_, _, _, rfl, ?_⟩
    refine PIf.intro (fun q => ?_) (fun q => ?_)
    · have q : (nextL (bl (readB m (zn w)).1)).1 ≠ 0 := by simp at q; omega
      rw [if_pos q] at hr
      exact none_ok h1 _ x1 hr
    have q : ¬ (nextL (bl (readB m (zn w)).1)).1 ≠ 0 := by simp at q; omega
    rw [if_neg q] at hr
    rw [bs_eq]
    have hrest : decide (strL (nextL (bl (readB m (zn w)).1)).2.2 = bs0') = decide ((nextL (bl (readB m (zn w)).1)).2.2 = []) := by
      rw [decide_eq_decide]; exact strL_inj (b := [])
    rw [hrest]
    refine PIf.intro (fun q => ?_) (fun q => ?_)
    · have q : (nextL (bl (readB m (zn w)).1)).2.2 ≠ [] := by simpa using q
      rw [if_pos q] at hr
      exact none_ok h1 _ x1 hr
    have q : ¬ (nextL (bl (readB m (zn w)).1)).2.2 ≠ [] := by simpa using q
    rw [if_neg q] at hr
    have hnl := next_len (bl (readB m (zn w)).1)
    rw [bl_size] at hnl
    refine eUnpack_ok (by omega) (fun hu h2 x2 => ⟨⟨none, 0, 0⟩, _, rfl, ?_⟩) (fun es hu h2 s x2 v hl => ⟨s, _, rfl, ?_⟩)
    · rw [hu] at hr
      exact none_ok h2 _ (x1.trans x2) hr
    · rw [hu] at hr
      have := H h2 s (x1.trans x2) (by rw [hr]; exact v) (by rw [hr]; exact hl)
      rw [hr] at this
      exact this
end Go.Lf.G
