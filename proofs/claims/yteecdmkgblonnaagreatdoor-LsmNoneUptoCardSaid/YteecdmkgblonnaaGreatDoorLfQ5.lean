/-
 The law LsmNone (chapter 9) over its formula.
-/
import Derived.Test.YteecdmkgblonnaaGreatDoorLfGLLsmNone
import Derived.Test.YteecdmkgblonnaaGreatDoorLfQ0ToO3
set_option linter.unusedVariables false
set_option linter.unusedSimpArgs false
set_option maxRecDepth 100000
set_option linter.unusedVariables false
set_option linter.unusedSimpArgs false
namespace Go.Lf.G
open Go
section
variable {A : Amb} {h : Heap} {R : Value → Heap → Prop}
theorem WOpen_none {name : ByteArray} (H : R (.tuple #[.pointer none, .slice none 0 0, .int .i64 30]) h) : HCalls A P f_wal_Open #[.pointer none, .string name] h R := by
 refine ok_wal_Open ?_
 unfold F_wal_Open
 exact PIf.yes rfl H
theorem Open_none (H : R (.tuple #[.pointer none, .int .i64 30]) h) : HCalls A P f_lsm_Open #[.pointer none] h R := by
 refine ok_lsm_Open ?_
 unfold F_lsm_Open
 exact WOpen_none ⟨none, ⟨none, 0, 0⟩, 30, rfl, PIf.yes rfl H⟩
theorem Open_off {b : Nat} {S : Nat → Prop} {m : Bx} (B : IsBox h b S m) (hd : m.down = true) (H : ∀ h', Ext h h' → R (.tuple #[.pointer none, .int .i64 30]) h') : HCalls A P f_lsm_Open #[ptrV b] h R := by
 refine ok_lsm_Open ?_
 unfold F_lsm_Open
 refine ok_wal_Open ?_
 unfold F_wal_Open
 refine PIf.no rfl (Join.mk fun K hK => ?_)
 have e : sEq (⟨#[110]⟩ : ByteArray) (⟨#[]⟩ : ByteArray) = false := by rw [sEq_iff]; exact decide_eq_false (by decide)
 refine PIf.no e (hK _ _ (PIf.no (by decide) ?_))
 refine ok_wal_segments ?_
 unfold F_wal_segments
 refine bList_ok B fun s h1 o1 x1 f1 => ⟨s, _, rfl, ?_⟩
 have e2 : (listB m).2 = 30 := by unfold listB; rw [if_pos hd]
 rw [e2]
 exact PIf.yes rfl ⟨⟨none, 0, 0⟩, _, rfl, PIf.yes rfl ⟨none, ⟨none, 0, 0⟩, _, rfl, PIf.yes rfl (H h1 x1)⟩⟩
theorem None_shape (H : R (.tuple #[.int .i64 0, .int .i64 0]) h) : HCalls A P f_lsm_DB_Shape #[.pointer none] h R := by
 refine ok_lsm_DB_Shape ?_
 unfold F_lsm_DB_Shape
 exact PIf.yes rfl H
theorem None_get {key : ByteArray} (H : R (.tuple #[.string (⟨#[]⟩ : ByteArray), .bool false, .int .i64 30]) h) : HCalls A P f_lsm_DB_Get #[.pointer none, .string key] h R := by
 refine ok_lsm_DB_Get ?_
 unfold F_lsm_DB_Get
 exact Join.mk fun K hK => PIf.yes rfl (hK _ _ (PIf.yes rfl H))
theorem None_scan {f t : ByteArray} {n : Int} (H : R (.tuple #[.slice none 0 0, .int .i64 30]) h) : HCalls A P f_lsm_DB_Scan #[.pointer none, .string f, .string t, .int .i64 n] h R := by
 refine ok_lsm_DB_Scan ?_
 unfold F_lsm_DB_Scan
 exact Join.mk fun K hK => PIf.yes rfl (hK _ _ (PIf.yes rfl H))
theorem None_write {s : Sl} (H : R (.int .i64 30) h) : HCalls A P f_lsm_DB_Write #[.pointer none, .slice s.p s.len s.cap] h R := by
 refine ok_lsm_DB_Write ?_
 unfold F_lsm_DB_Write
 exact Join.mk fun K hK => PIf.yes rfl (hK _ _ (PIf.yes rfl H))
theorem None_flush (H : R (.int .i64 30) h) : HCalls A P f_lsm_DB_Flush #[.pointer none] h R := by
 refine ok_lsm_DB_Flush ?_
 unfold F_lsm_DB_Flush
 exact Join.mk fun K hK => PIf.yes rfl (hK _ _ (PIf.yes rfl H))
theorem None_compact (H : R (.int .i64 30) h) : HCalls A P f_lsm_DB_Compact #[.pointer none] h R := by
 refine ok_lsm_DB_Compact ?_
 unfold F_lsm_DB_Compact
 exact Join.mk fun K hK => PIf.yes rfl (hK _ _ (PIf.yes rfl H))
theorem LsmNone_ok {s : Sl} {key : ByteArray} (E : Evn h) (H : ∀ h', Ext h h' → R (.bool true) h') : HCalls A P f_wherrylaw09_LsmNone #[.slice s.p s.len s.cap, .string key] h R := by
 refine ok_wherrylaw09_LsmNone ?_
 unfold F_wherrylaw09_LsmNone
 refine awake_ok E fun h1 x1 => ⟨_, rfl, PIf.no rfl ?_⟩
 refine None_shape ⟨_, _, rfl, None_get ⟨_, _, _, rfl, None_scan ⟨⟨none, 0, 0⟩, _, rfl, Open_none ⟨_, _, rfl, ?_⟩⟩⟩⟩
 refine bNew_ok fun b h2 Sb B2 x2 f2 => ⟨_, rfl, ?_⟩
 refine bCrash_ok (keep := ⟨none, 0, 0⟩) (ks := []) B2 View.nil fun b3 h3 S3 B3 _ md3 f3 => ⟨_, rfl, ?_⟩
 have x03 : Ext h h3 := (x1.trans x2).then (md3.weak fun c _ hc => .inr (by have := f2 c hc; have := x1.size; omega))
 refine Open_off B3 rfl fun h4 x4 => ⟨_, _, rfl, ?_⟩
 refine PIf.yes rfl (PIf.yes rfl (PIf.yes rfl (PIf.yes rfl (None_write ⟨_, rfl, PIf.yes rfl (None_flush ⟨_, rfl, PIf.yes rfl (None_compact ⟨_, rfl, PIf.yes rfl (PIf.yes rfl ?_)⟩)⟩)⟩))))
 exact H h4 (x03.trans x4)
end
end Go.Lf.G

