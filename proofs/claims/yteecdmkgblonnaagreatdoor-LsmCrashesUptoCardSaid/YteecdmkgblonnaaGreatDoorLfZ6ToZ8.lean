/-
 Contracts: a table's file laid; a note written (chapter 9).
-/
import Derived.Test.YteecdmkgblonnaaGreatDoorLfU22ToZ5
import Derived.Test.YteecdmkgblonnaaGreatDoorLfM12ToX4
set_option linter.unusedVariables false
set_option linter.unusedSimpArgs false
set_option maxRecDepth 100000
set_option linter.unusedVariables false
set_option linter.unusedSimpArgs false
namespace Go.Lf.G
open Go
theorem tf_good {n : Nat} (h : n ≤ 99999999) : badName (tfN n) = false := by
 have h1 : (tfN n).size = 1 + (Lib.decDigits n).length := by
  have := bl_size (tfN n)
  rw [tfN_bl] at this
  rw [← this]; simp; omega
 have h2 : (Lib.decDigits n).length ≤ 20 := by rw [Lib.decDigits_length]; exact Lib.nDigits_le20 n (by omega)
 unfold badName
 rw [Bool.or_eq_false_iff, decide_eq_false_iff_not, decide_eq_false_iff_not]
 refine ⟨fun h => ?_, by omega⟩
 rw [h] at h1
 have : bs0.size = 0 := rfl
 omega
theorem lfile_ok {A : Amb} {h : Heap} {n : Nat} {R : Value → Heap → Prop} (E : Evn h) (hn : n ≤ 1099511627776) (H : ∀ h', Ext h h' → R (.string (tfN n)) h') : HCalls A P f_lsm_file #[.int .i64 n] h R := by
 refine ok_lsm_file ?_
 unfold F_lsm_file
 refine Itoa_ok E.tab (by omega) (by omega) fun h1 x1 => ⟨_, rfl, ?_⟩
 have e1 : Lib.itoa (n : Int) = Lib.decDigits n := Lib.itoa_nonneg n
 rw [e1]
 have h2 : (Lib.decDigits n).length ≤ 20 := by rw [Lib.decDigits_length]; exact Lib.nDigits_le20 n (by omega)
 have hl : (⟨(Lib.decDigits n).toArray⟩ : ByteArray).size = (Lib.decDigits n).length := by simp [ByteArray.size]
 refine ⟨?_, ?_⟩
 ·rw [hl, max_i64]
  have : (⟨#[116]⟩ : ByteArray).size = 1 := rfl
  omega
 ·exact H h1 x1
/-- a store that is down -/
def IsDown (h : Heap) (d : Nat) : Prop := ∃ c0 c1 c2 c3 c4 c5 c6 c7, h[d]? = some (.cells #[c0, c1, c2, c3, c4, c5, c6, c7, .bool true] t_lsm_DB (0, 0))
theorem IsDown.mod {S : Nat → Prop} {h h' : Heap} {d : Nat} (D : IsDown h d) (x : Mod S h h') (hS : ¬ S d) : IsDown h' d := by
 obtain ⟨c0, c1, c2, c3, c4, c5, c6, c7, hd⟩ := D
 exact ⟨c0, c1, c2, c3, c4, c5, c6, c7, x.blk hd hS⟩
theorem hurt_ok {A : Amb} {h : Heap} {q : Hp} {st : Db} {R : Value → Heap → Prop} (hd : h[q.d]? = some (.cells (dbC q st false) t_lsm_DB (0, 0))) (H : ∀ h', IsDown h' q.d → Mod (· = q.d) h h' → h'.size = h.size → R (.int .i64 30) h') : HCalls A P f_lsm_DB_hurt #[ptrV q.d, .int .i64 30] h R := by
 refine ok_lsm_DB_hurt ?_
 unfold F_lsm_DB_hurt
 refine Join.mk fun K hK => PIf.yes rfl (atI (Store.mk1 hd (by simp) fun h1 hb1 m1 hs1 => hK _ _ (H h1 ?_ m1 hs1)))
 exact ⟨_, _, _, _, _, _, _, _, by simpa using hb1⟩
section
variable {A : Amb} {g h : Heap} {q : Hp} {k : Nat → Nat} {st : Db} {m : Bx} {R : Value → Heap → Prop}
theorem DbH.evn (W : DbH g h q k st m) (E : Evn g) : Evn h := E.ext W.ext
def Grow (k k' : Nat → Nat) (n : Nat) : Prop := ∀ c, c < n → k' c = k c
theorem Grow.refl {k : Nat → Nat} {n : Nat} : Grow k k n := fun _ _ => rfl
theorem Grow.trans {k k1 k2 : Nat → Nat} {n n1 : Nat} (a : Grow k k1 n) (b : Grow k1 k2 n1) (h : n ≤ n1) : Grow k k2 n := fun c hc => (b c (by omega)).trans (a c hc)
theorem grow_ext {k : Nat → Nat} {n j : Nat} {S : Nat → Prop} : Grow k (extK k n S j) n := fun c hc => extK_old hc
/-- a note's bytes -/
theorem note_ok (W : DbH g h q k st m) (hn : st.next ≤ 99999999) (hf : st.frm ≤ 99999999) (hc : st.ts.length ≤ 60000) (hb : ∀ p ∈ st.ts, p.1 ≤ 99999999) (H : ∀ h', Ext h h' → R (.string (strL (noteL ⟨st.next, st.frm, st.ts.map (·.1)⟩))) h') : HCalls A P f_lsm_DB_note #[ptrV q.d] h R := by
 refine ok_lsm_DB_note ?_
 unfold F_lsm_DB_note
 refine atI (LoadI.mk (hget_lit1 W.cell rfl) ?_)
 rw [wrap_u64n (by omega)]
 refine vPut_ok (by omega) fun h1 x1 => ⟨_, rfl, ?_⟩
 have c1 := ext_cells x1 W.cell
 refine atI (LoadI.mk (hget_lit1 c1 rfl) ⟨hget_lit1 W.cell rfl, ?_⟩)
 rw [wrap_u64n (by omega)]
 refine vPut_ok (by omega) fun h2 x2 => ⟨_, rfl, ?_⟩
 have c2 := ext_cells x2 c1
 have l1 := putV_len10 (n := st.next) (by omega)
 have l2 := putV_len10 (n := st.frm) (by omega)
 have hnl : q.np.len = st.ts.length := by rw [W.names.len]; simp
 refine ⟨by rw [strL_size, strL_size, max_i64]; omega, ?_⟩
 refine atI (LoadL.mk (s := q.np) (hget_lit1 c2 rfl) ⟨hget_lit1 c1 rfl, hget_lit1 W.cell rfl, ?_⟩)
 rw [hnl, wrap_u64n (by omega), strL_app]
 refine vPut_ok (by omega) fun h3 x3 => ⟨_, rfl, ?_⟩
 have c3 := ext_cells x3 c2
 have l3 := putV_len10 (n := st.ts.length) (by omega)
 refine ⟨by rw [strL_size, strL_size, List.length_append, max_i64]; omega, ?_⟩
 refine atI (LoadL.mk (s := q.np) (hget_lit1 c3 rfl) ?_)
 rw [strL_app]
 have x03 := (x1.trans x2).trans x3
 have v3 := (W.names.ext x03).view
 have hle : ∀ i, ((st.ts.map (·.1)).take i).flatMap putV = ((st.ts.map (·.1)).take i).flatMap putV := fun _ => rfl
 refine Loop.rule (fun mm x hh => ∃ i : Nat, x = (strL (putV st.next ++ putV st.frm ++ putV st.ts.length ++ ((st.ts.map (·.1)).take i).flatMap putV), (i : Int), ()) ∧ mm = st.ts.length - i ∧ i ≤ st.ts.length ∧ Ext h3 hh) ?_ ⟨0, by simp, rfl, by omega, Mod.refl⟩
 rintro K mm _ hh ⟨i, rfl, rfl, hi, xx⟩ hK
 dsimp only
 refine PIf.intro (fun hq => ?_) (fun hq => ?_)
 ·have hil : i < st.ts.length := by rw [← hnl]; simpa using hq
  have hget : st.ts[i]? = some st.ts[i] := List.getElem?_eq_getElem hil
  have hbi := hb st.ts[i] (List.getElem_mem hil)
  refine (v3.ext xx).idx (i := i) (x := (st.ts[i].1 : Int)) (by rw [nmS, List.getElem?_map, hget]; rfl) fun a _ c => LoadI.mk c.int ?_
  rw [wrap_u64n (by omega)]
  refine vPut_ok (by omega) fun h5 x5 => ⟨_, rfl, ?_⟩
  have l5 := putV_len10 (n := st.ts[i].1) (by omega)
  have l6 := names_len (l := (st.ts.map (·.1)).take i) fun n hn => by
   obtain ⟨p, hp, rfl⟩ := List.mem_map.1 (List.mem_of_mem_take hn)
   exact hb p hp
  have l7 : ((st.ts.map (·.1)).take i).length ≤ 60000 := by simp; omega
  refine ⟨by rw [strL_size, strL_size, max_i64]; simp only [List.length_append]; omega, ?_⟩
  rw [strL_app, wrap_succ (by omega)]
  refine hK (st.ts.length - (i + 1)) _ _ (by omega) ⟨i + 1, ?_, rfl, hil, xx.trans x5⟩
  rw [List.take_add_one, List.getElem?_map, hget]
  simp
 ·have hil : i = st.ts.length := by rw [hnl] at hq; simp at hq; omega
  subst hil
  have := H hh (x03.trans xx)
  rw [List.take_of_length_le (by simp)]
  simpa [noteL] using this
/-- a table's file is laid -/
theorem lay_ok {n : Nat} {s : Sl} {l : List Pr} (E : Evn g) (W : DbH g h q k st m) (hd : m.down = false) (T : TabOk l) (hv : View PairE h s l) (hs : ∀ c, s.blk = some c → c < h.size) (hn : n ≤ 99999999) (hf : ff m (tfN n) = none) (hw : wtF m.files + (tabL l).length + 1 ≤ 8796093022208)
  (H0 : m.fuel ≠ -1 → ∀ h' S' m', IsBox h' q.b S' m' → m'.down = true → Mod q.Sb h h' → (∀ c, S' c → q.Sb c ∨ h.size ≤ c) → (∀ x, x ≠ tfN n → ff m' x = ff m x) → wtF m'.files ≤ wtF m.files + (tabL l).length + 1 → R (.tuple #[.pointer none, .int .i64 30]) h')
  (H1 : ∀ h' S' k' m' t lo hi, DbH g h' { q with Sb := S' } k' st m' → Stay m m' → (∀ x, ff m' x = if x = tfN n then some (strL (tabL l), bs0) else ff m x) → wtF m'.files ≤ wtF m.files + (tabL l).length + 1 → TabAt h' t l (fltL l) lo hi → h.size ≤ lo → hi ≤ h'.size → (∀ c, lo ≤ c → k' c = 0) →
   Mod q.Sb h h' → Grow k k' h.size → R (.tuple #[ptrV t, .int .i64 0]) h') : HCalls A P f_lsm_DB_lay #[ptrV q.d, .int .i64 (n : Int), .slice s.p s.len s.cap] h R := by
 refine ok_lsm_DB_lay ?_
 unfold F_lsm_DB_lay
 refine Build_ok T hv hs fun h1 x1 => ⟨_, _, rfl, PIf.no rfl ?_⟩
 have W1 := W.on x1
 refine atI (LoadP.mk (hget_lit W1.cell rfl) ?_)
 refine lfile_ok (W1.evn E) (by omega) fun h2 x2 => ⟨_, rfl, ⟨hget_lit (W1.on x2).cell rfl, ?_⟩⟩
 have W2 := W1.on x2
 have x02 := x1.trans x2
 have sz2 := x02.size
 refine bAppend_ok W2.box (by rw [strL_size]; exact hw) fun h3 S3 B3 m3 s3 => ⟨_, rfl, ?_⟩
 have wt3 := wt_append W.box.good (tfN n) (strL (tabL l))
 rw [strL_size] at wt3
 have mod3 : Mod q.Sb h h3 := (Ext.mod x02).trans m3
 have sub3 : ∀ c, S3 c → q.Sb c ∨ h.size ≤ c := fun c hc => (s3 c hc).imp id fun h => by omega
 rcases append_cases (k := tfN n) (d := strL (tabL l)) hd (tf_good hn) with ⟨hf0, e3⟩ | ⟨e3, st3, f3⟩
 ·rw [e3] at B3 ⊢
  refine PIf.yes rfl ?_
  exact H0 (by rw [hf0]; decide) h3 S3 _ B3 rfl mod3 sub3 (fun x _ => rfl) (by rw [wt_off, Nat.add_assoc]; exact Nat.le_add_right _ _)
 rw [e3]
 refine PIf.no rfl ?_
 have W3 := W2.boxed (j := 2) (st' := st) B3 (m3.weak fun c _ hc => .inl hc) s3 rfl rfl rfl rfl (.inl ⟨by decide, rfl, rfl⟩) (.inl ⟨by decide, rfl⟩)
 generalize (appendB m (tfN n) (strL (tabL l))).2 = m3' at *
 have g3 : Grow k (extK k h2.size S3 2) h2.size := grow_ext
 refine atI (LoadP.mk (hget_lit W3.cell rfl) ?_)
 refine lfile_ok (W3.evn E) (by omega) fun h4 x4 => ⟨_, rfl, ⟨hget_lit (W3.on x4).cell rfl, ?_⟩⟩
 have W4 := W3.on x4
 rw [hf] at f3
 have f3t : ff m3' (tfN n) = some (bs0, bs0 ++ strL (tabL l)) := by rw [f3, if_pos rfl]; rfl
 refine bSync_ok W4.box fun h5 B5 m5 => ⟨_, rfl, ?_⟩
 have wt5 := wt_sync W3.box.good (tfN n)
 have mod5 : Mod q.Sb h h5 := by
  refine mod3.then ((Ext.mod x4).trans m5 |>.weak fun c _ hc => ?_)
  exact (sub3 c hc)
 rcases sync_cases st3.up f3t with ⟨hf0, e5⟩ | ⟨e5, st5, f5⟩
 ·rw [e5] at B5 ⊢
  refine PIf.yes rfl ?_
  exact H0 (fun hh => by have := st3.calm hh; rw [hf0] at this; cases this) h5 S3 _ B5 rfl mod5 sub3 (fun x hx => by
   rw [ff_off, f3, if_neg hx]) wt3
 rw [e5]
 refine PIf.no rfl ?_
 have W5 := W4.boxed (j := 2) (st' := st) B5 (m5.weak fun c _ hc => .inl hc) (fun c hc => .inl hc) rfl rfl rfl rfl (.inl ⟨by decide, rfl, rfl⟩) (.inl ⟨by decide, rfl⟩)
 generalize (syncB m3' (tfN n)).2 = m5' at *
 refine atI (LoadP.mk (hget_lit W5.cell rfl) ?_)
 refine lfile_ok (W5.evn E) (by omega) fun h6 x6 => ⟨_, rfl, ⟨hget_lit (W5.on x6).cell rfl, ?_⟩⟩
 have W6 := W5.on x6
 refine bRead_ok W6.box ⟨_, _, rfl, ?_⟩
 have f5t : ff m5' (tfN n) = some (strL (tabL l), bs0) := by rw [f5, if_pos rfl, nil_app, nil_app]
 rw [ff_read st5.up, f5t]
 dsimp only
 rw [app_nil]
 refine PIf.no rfl ?_
 refine TOpen_ok T.tabS fun h7 t x7 T7 => ⟨_, _, rfl, ?_⟩
 have sz4 := x4.size
 have sz3 := m3.size
 have sz5 := m5.size
 have sz6 := x6.size
 have k5 : ∀ c, h6.size ≤ c → extK (extK k h2.size S3 2) h4.size S3 2 c = 0 := fun c hc => by
  have : ¬ S3 c := fun hs => by have := B5.lt hs; omega
  exact extK_none (by omega) this
 refine H1 h7 S3 _ m5' t h6.size h7.size (W6.on x7) (st3.trans st5) (fun x => ?_) (Nat.le_trans wt5 wt3) T7 (by omega) (Nat.le_refl _) (fun c hc => k5 c hc) ?_ ?_
 ·rw [f5]
  by_cases hx : x = tfN n
  ·rw [if_pos hx, if_pos hx, nil_app, nil_app]
  ·rw [if_neg hx, if_neg hx, f3, if_neg hx]
 ·exact (mod5.trans (Ext.mod x6)).trans (Ext.mod x7)
 ·exact fun c hc => by
   rw [extK_old (by omega), extK_old (by omega)]
end
end Go.Lf.G

/-
 Contract: how it is now is told (chapter 9): a note is written, older ones go.
-/
set_option maxRecDepth 100000
set_option linter.unusedVariables false
set_option linter.unusedSimpArgs false
namespace Go.Lf.G
open Go
section
variable {A : Amb} {g h : Heap} {q : Hp} {k : Nat → Nat} {st : Db} {m : Bx} {R : Value → Heap → Prop}
theorem DbH.evnB (W : DbH g h q k st m) (E : Evn g) {h' : Heap} (x : Mod (fun c => q.Sb c ∨ c = q.lg ∨ c = q.nt) h h') : Evn h' :=
 E.ext (W.rest (C := fun c => c = 2 ∨ c = 3 ∨ c = 4) (x.weak fun c _ hc => by
  rcases hc with hc | rfl | rfl
  ·exact .inl (W.kb c hc)
  ·exact .inr (.inl W.kl)
  ·exact .inr (.inr W.kn)) (by decide)).ext
def ntS (st : Db) : Nt := ⟨st.next, st.frm, st.ts.map (·.1)⟩
theorem told_ok {D : Disk} {T : Nat → List Pr} (E : Evn g) (W : DbH g h q k st m) (hd : m.down = false) (hD : DiskOk (ff m) D) (hx : NtOk (ntS st)) (hT : ∀ n ∈ (ntS st).names, ff m (tfN n) = some (strL (tabL (T n)), bs0) ∧ TabOk (T n)) (hs : 1 ≤ st.nseg ∧ st.nseg + 2 ≤ 99999999)
  (hout : ∀ n, st.nseg ≤ n → n ≤ 99999999 → ff m (fnB nn n) = none) (hw : wtF m.files + 1000000 ≤ 8000000000000)
  (H0 : m.fuel ≠ -1 → ∀ h' S' m', IsBox h' q.b S' m' → m'.down = true → Mod (fun c => q.Sb c ∨ c = q.nt) h h' → (∀ c, S' c → q.Sb c ∨ h.size ≤ c) → (∀ G, CrashTo (ff m') G → ∃ D', DiskOk G D' ∧ Nxt D st.nseg (ntS st) T D') → (∀ y, (∀ n, y ≠ fnB nn n) → ff m' y = ff m y) → wtF m'.files ≤ wtF m.files + 700000 → R (.int .i64 30) h')
  (H1 : ∀ h' S' k' m' D', DbH g h' { q with Sb := S' } k' { st with nseg := st.nseg + 1 } m' → Stay m m' → DiskOk (ff m') D' → lastN D' = ntS st → D'.T = T → D'.L = D.L → D'.ltop = D.ltop → D'.ntop ≤ max D.ntop (st.nseg + 1) → (∀ y, (∀ n, y ≠ fnB nn n) → ff m' y = ff m y) →
   (∀ n, st.nseg + 1 ≤ n → n ≤ 99999999 → ff m' (fnB nn n) = none) → wtF m'.files ≤ wtF m.files + 700000 → Mod (fun c => q.Sb c ∨ c = q.nt) h h' → Grow k k' h.size → R (.int .i64 0) h') : HCalls A P f_lsm_DB_told #[ptrV q.d] h R := by
 have hbel : ∀ p ∈ st.ts, p.1 ≤ 99999999 := fun p hp => by
  have h1 := hx.below p.1 (List.mem_map.2 ⟨p, hp, rfl⟩)
  have h2 := hx.next
  simp only [ntS] at h1 h2; omega
 have hcnt : st.ts.length ≤ 60000 := by have := hx.cnt; simpa [ntS] using this
 have hnl := note_len hx
 have hnl2 : (ntS st).names.length = st.ts.length := by simp [ntS]
 rw [hnl2] at hnl
 have hnl3 : (noteL (ntS st)).length ≤ 1048576 := by omega
 refine ok_lsm_DB_told ?_
 unfold F_lsm_DB_told
 refine atI (LoadP.mk (hget_lit1 W.cell rfl) ?_)
 refine note_ok W hx.next hx.frm.2 hcnt hbel fun h1 x1 => ⟨_, rfl, ⟨hget_lit1 (W.on x1).cell rfl, ?_⟩⟩
 have W1 := W.on x1
 have sz1 := x1.size
 have er : (strL (noteL ⟨st.next, st.frm, st.ts.map (·.1)⟩)).size = (noteL (ntS st)).length := by rw [strL_size]; rfl
 refine lAppend_ok (W1.evn E) W1.nts W1.box W1.nSn (fun h' x => W1.evnB E (x.weak fun c _ hc => .inl hc)) (by decide) (by omega) (by rw [er]; omega) (by omega) fun h2 S2 B2 L2 m2 s2 => ⟨_, rfl, ?_⟩
 rw [show bl (strL (noteL ⟨st.next, st.frm, st.ts.map (·.1)⟩)) = noteL (ntS st) from bl_strL _] at B2 L2 ⊢
 have wt2 := wt_append W.box.good (fnB nn st.nseg) (strL (wrapL (noteL (ntS st))))
 have wl := (wrapL_len hnl3).2
 rw [strL_size] at wt2
 have mod2 : Mod (fun c => q.Sb c ∨ c = q.nt) h h2 := (Ext.mod x1).trans m2
 have sub2 : ∀ c, S2 c → q.Sb c ∨ h.size ≤ c := fun c hc => (s2 c hc).imp id fun h => by omega
 rcases append_cases (k := fnB nn st.nseg) (d := strL (wrapL (noteL (ntS st)))) hd (fn_good (by decide) (by omega)) with ⟨hf0, e2⟩ | ⟨e2, st2, f2⟩
 ·rw [e2] at B2 ⊢
  refine PIf.yes rfl ?_
  exact H0 (by rw [hf0]; decide) h2 S2 _ B2 rfl mod2 sub2 (fun G c => ⟨D, hD.crash c, nxt_self⟩) (fun y _ => rfl) (by rw [wt_off]; omega)
 rw [e2] at L2 ⊢
 refine PIf.no rfl ?_
 rw [decide_eq_true rfl, Bool.or_true] at L2
 generalize (appendB m (fnB nn st.nseg) (strL (wrapL (noteL (ntS st))))).2 = ma at *
 rw [hout st.nseg (Nat.le_refl _) (by omega)] at f2
 have f2' : ∀ y, ff ma y = if y = fnB nn st.nseg then some (bs0, strL (wrapL (noteL (ntS st)))) else ff m y := fun y => by
  rw [f2]; split <;> simp only [Option.getD_none, nil_app]
 have nS2 : ¬ S2 q.nt := fun hc => by
  rcases s2 _ hc with h | h
  ·exact W.nSn h
  ·exact h.2 rfl
 have cd2 : h2[q.d]? = some (.cells (dbC q st false) t_lsm_DB (0, 0)) := mod2.blk W.cell (by rintro (h | h); exact W.nSd h; exact W.dn h)
 refine atI (LoadP.mk (hget_lit1 cd2 rfl) ?_)
 have fk : ff ma (fnB nn st.nseg) = some (bs0, strL (wrapL (noteL (ntS st)))) := by rw [f2', if_pos rfl]
 have ev2 : Evn h2 := W.evnB E (mod2.weak fun c _ hc => hc.imp id .inr)
 refine lRotate_ok ev2 L2 B2 nS2 (by decide) (by omega) (fun hne h3 B3 L3 m3 => ⟨_, _, rfl, ?_⟩) fun heq h3 B3 L3 m3 => ⟨_, _, rfl, ?_⟩
 · -- the box gives out at the sync
  have hne' : (syncB ma (fnB nn st.nseg)).1 ≠ 0 := hne
  rcases sync_cases st2.up fk with ⟨hf0, e3⟩ | ⟨e3, _, _⟩
  ·have e3' : syncL ma (fnB nn st.nseg) true = (30, offB ma) := e3
   rw [e3'] at B3 ⊢
   refine PIf.yes rfl ?_
   have mod3 : Mod (fun c => q.Sb c ∨ c = q.nt) h h3 := mod2.then (m3.weak fun c _ hc => (sub2 c hc).imp .inl id)
   exact H0 (fun hh => by have := st2.calm hh; rw [hf0] at this; cases this) h3 S2 _ B3 rfl mod3 sub2 (fun G c => note_torn hD ⟨hs.1, by omega⟩ hx hnl3 hout hT (F1 := ff (offB ma)) f2' c) (fun y hy => by
    rw [ff_off, f2', if_neg (hy _)]) (by rw [wt_off]; omega)
  ·exact absurd e3 hne'
 ·rcases sync_cases st2.up fk with ⟨hf0, e3⟩ | ⟨e3, st3, f3⟩
  ·have heq' : (syncB ma (fnB nn st.nseg)).1 = 0 := heq
   rw [e3] at heq'; cases heq'
  have B3 : IsBox h3 q.b S2 (syncB ma (fnB nn st.nseg)).2 := B3
  have wt3 := wt_sync B2.good (fnB nn st.nseg)
  generalize (syncB ma (fnB nn st.nseg)).2 = mb at *
  refine PIf.no rfl ?_
  have f3' : ∀ y, ff mb y = if y = fnB nn st.nseg then some (strL (wrapL (noteL (ntS st))), bs0) else ff m y := fun y => by
   rw [f3]
   by_cases hy : y = fnB nn st.nseg
   ·rw [if_pos hy, if_pos hy]; simp only [nil_app]
   ·rw [if_neg hy, if_neg hy, f2', if_neg hy]
  obtain ⟨hD3, hN⟩ := note_firm hD ⟨hs.1, by omega⟩ hx hnl3 hout hT f3'
  have mod3 : Mod (fun c => q.Sb c ∨ c = q.nt) h h3 := mod2.then (m3.weak fun c _ hc => by
   rcases hc with hc | rfl
   ·exact (sub2 c hc).imp .inl id
   ·exact .inl (.inr rfl))
  have cd3 : h3[q.d]? = some (.cells (dbC q st false) t_lsm_DB (0, 0)) := mod3.blk W.cell (by rintro (h | h); exact W.nSd h; exact W.dn h)
  refine atI (LoadP.mk (hget_lit1 cd3 rfl) ?_)
  have ew : IntKind.wrap .i64 (((st.nseg : Nat) : Int) - (1 : Int)) = (st.nseg : Int) - 1 := wrap_i64 (by omega) (by omega)
  rw [ew]
  have ev3 : Evn h3 := W.evnB E (mod3.weak fun c _ hc => hc.imp id .inr)
  have ev4 : ∀ h', Mod S2 h3 h' → Evn h' := fun h' x => W.evnB E ((mod3.then (x.weak fun c _ hc => (sub2 c hc).imp .inl id)).weak fun c _ hc => hc.imp id .inr)
  have fz : ff mb (fnB nn st.nseg) ≠ none := by rw [f3', if_pos rfl]; simp
  refine lDropF_ok ev3 ev4 L3 B3 st3.up nS2 (by decide) (by omega) (fun h => absurd h (by omega)) (fun hfu h4 S4 m4 B4 dn4 md4 s4 w4 f4 => ⟨_, rfl, ?_⟩) fun _ h4 S4 m4 B4 st4 md4 s4 w4 f4 f4' => ⟨_, rfl, ?_⟩
  ·have mod4 : Mod (fun c => q.Sb c ∨ c = q.nt) h h4 := mod3.then (md4.weak fun c _ hc => (sub2 c hc).imp .inl id)
   obtain ⟨D', d1, d2, d3, d4, d5, d6⟩ := nxt_drop (G := ff m4) hD3 hN fz fun y => by
    rcases f4 y with h1 | ⟨h1, n, n1, n9, nu, h2⟩
    ·exact .inl h1
    ·exact .inr ⟨h1, n, by omega, n9, h2⟩
   refine H0 (fun hh => hfu (st3.calm (st2.calm hh))) h4 S4 m4 B4 dn4 mod4 (fun c hc => sub2 c (s4 c hc)) (fun G c => ⟨D', d1.crash c, d4, d5, by omega, .inr ⟨d2, d3⟩⟩) (fun y hy => ?_) (by omega)
   rcases f4 y with h1 | ⟨_, n, _, _, _, h2⟩
   ·rw [h1, f3', if_neg (hy _)]
   ·exact absurd h2 (hy n)
  ·have mod4 : Mod (fun c => q.Sb c ∨ c = q.nt) h h4 := mod3.then (md4.weak fun c _ hc => (sub2 c hc).imp .inl id)
   obtain ⟨D', d1, d2, d3, d4, d5, d6⟩ := nxt_drop (G := ff m4) hD3 hN fz fun y => by
    by_cases hy : ∃ n : Nat, 1 ≤ n ∧ n ≤ 99999999 ∧ (n : Int) ≤ (st.nseg : Int) - 1 ∧ y = fnB nn n
    ·obtain ⟨n, n1, n9, nu, rfl⟩ := hy
     exact .inr ⟨f4 n n1 n9 nu, n, by omega, n9, rfl⟩
    ·exact .inl (f4' y fun n n1 n9 nu e => hy ⟨n, n1, n9, nu, e⟩)
   have hfr : ∀ y, (∀ n, y ≠ fnB nn n) → ff m4 y = ff m y := fun y hy => by
    rw [f4' y fun n _ _ _ => hy n, f3', if_neg (hy _)]
   have L4 : IsLog h4 q.nt q.b nn (st.nseg + 1) false := L3.mod md4 nS2
   have W4 := W.boxed (j := 4) (st' := { st with nseg := st.nseg + 1 }) B4 (mod4.weak fun c _ hc => hc.imp id fun h => .inr ⟨rfl, h⟩) (fun c hc => sub2 c (s4 c hc)) rfl rfl rfl rfl (.inl ⟨by decide, rfl, rfl⟩) (.inr L4)
   refine H1 h4 S4 _ m4 D' W4 ((st2.trans st3).trans st4) d1 d2 d3 d4 d5 (by omega) hfr (fun n n1 n9 => ?_) (by omega) mod4 grow_ext
   rw [f4' (fnB nn n) fun k _ _ ku e => by have := fnB_inj e; omega, f3', if_neg fun e => by have := fnB_inj e; omega]
   exact hout n (by omega) n9
end
end Go.Lf.G

/-
 Contracts: slices.Values, merge.Some, pairs compared by the document (from the statements of chapters 5 and 8).
-/
set_option maxRecDepth 100000
set_option linter.unusedVariables false
set_option linter.unusedSimpArgs false
namespace Go.Lf.G.M
open Go Go.Lf Go.Lf.G
theorem Same_ok {A : Amb} {h : Heap} {a b : Sl} {la lb : List Pr} {R : Value → Heap → Prop} (va : View PairE h a la) (vb : View PairE h b lb) (hl : la.length ≤ 1099511627776)
  (H : R (.bool (decide (la = lb))) h) : HCalls A P f_wherryref05_Same #[.slice a.p a.len a.cap, .slice b.p b.len b.cap] h R := by
 refine ok_wherryref05_Same ?_
 unfold F_wherryref05_Same
 rw [va.len, vb.len]
 refine PIf.intro (fun hc => ?_) (fun hc => ?_)
 ·have : la ≠ lb := by rintro rfl; simp at hc
  simpa [this] using H
 ·have hlen : la.length = lb.length := by simp at hc; omega
  refine Loop.rule (fun m x h1 => ∃ i : Nat, x = ((i : Int), ()) ∧ h1 = h ∧ m = la.length - i ∧ i ≤ la.length ∧ la.take i = lb.take i) ?_ ⟨0, rfl, rfl, rfl, by omega, by simp⟩
  rintro K m _ _ ⟨i, rfl, rfl, rfl, hi, he⟩ hK
  refine PIf.intro (fun hc => ?_) (fun hc => ?_)
  ·have hi' : i < la.length := by simpa using hc
   rw [← va.len]
   refine va.idx (List.getElem?_eq_getElem hi') fun a1 _ c1 => ?_
   refine LoadS.mk (c1.pair.1) (LoadS.mk c1.pair.2.1 (LoadB.mk c1.pair.2.2 ?_))
   rw [← vb.len]
   refine vb.idx (List.getElem?_eq_getElem (by omega)) fun a2 _ c2 => ?_
   refine LoadS.mk (c2.pair.1) (LoadS.mk c2.pair.2.1 (LoadB.mk c2.pair.2.2 ?_))
   refine neqPair ⟨_, rfl, ?_⟩
   refine PIf.intro (fun hq => ?_) (fun hq => ?_)
   ·have : la ≠ lb := by rintro rfl; simp at hq
    simpa [this] using H
   ·simp at hq
    refine hK _ _ _ ?_ ⟨i + 1, by rw [wrap_succ (by omega)], rfl, rfl, by omega, ?_⟩
    ·omega
    ·rw [List.take_add_one, List.take_add_one, he, List.getElem?_eq_getElem hi', List.getElem?_eq_getElem (by omega), hq]
  ·have hi' : i = la.length := by simp at hc; omega
   subst hi'
   rw [List.take_length, hlen, List.take_length] at he
   simpa [he] using H
theorem Wrong_ok {A : Amb} {h : Heap} {x : Pr} {R : Value → Heap → Prop} (H : ∀ h', Ext h h' → h.size ≤ h'.size → R (.int .i64 (wrongP x)) h') :
  HCalls A P f_wherryref05_Wrong #[.agg #[.string x.key, .string x.val, .bool x.gone]] h R := by
 refine ok_wherryref05_Wrong ?_
 unfold F_wherryref05_Wrong
 refine New.mk fun h1 _ hb hx hsz => ?_
 have H1 := H h1 hx (by omega)
 unfold wrongP at H1
 refine Join.mk fun K hK => ?_
 have hbad : (decide (x.key = ⟨#[]⟩) || (x.gone && !decide (x.val = ⟨#[]⟩))) = true → K (true, ()) h1 := fun hc => hK _ _ (PIf.yes rfl (by rw [if_pos hc] at H1; exact H1))
 have hgood : (decide (x.key = ⟨#[]⟩) || (x.gone && !decide (x.val = ⟨#[]⟩))) = false → K (false, ()) h1 := fun hc => hK _ _ (PIf.no rfl (by
  rw [if_neg (by simp [hc])] at H1
  refine Join.mk fun K1 hK1 => ?_
  refine LoadS.mk (hget_lit hb rfl) ?_
  refine PIf.intro (fun hq => ?_) (fun hq => ?_)
  ·refine hK1 _ _ (PIf.yes rfl ?_)
   rw [if_pos (by simp at hq; simp; omega)] at H1
   exact H1
  ·refine LoadS.mk (hget_lit1 hb rfl) (hK1 _ _ ?_)
   simp at hq
   refine PIf.intro (fun hq2 => ?_) (fun hq2 => ?_)
   ·rw [if_pos (by simp at hq2; simp; omega)] at H1
    exact H1
   ·rw [if_neg (by simp at hq2; simp; omega)] at H1
    exact H1))
 refine LoadS.mk (hget_lit hb rfl) ?_
 rw [sEq_iff]
 refine PIf.intro (fun hq => ?_) (fun hq => ?_)
 ·exact hbad (by simp at hq; simp [hq])
 ·refine LoadB.mk (hget_lit1 hb rfl) ?_
  simp at hq
  refine PIf.intro (fun hg => ?_) (fun hg => ?_)
  ·refine LoadS.mk (hget_lit1 hb rfl) ?_
   rw [sEq_iff]
   cases hv : (!decide (x.val = ⟨#[]⟩))
   ·exact hgood (by simp [hq, hg, hv])
   ·exact hbad (by simp [hq, hg, hv])
  ·exact hgood (by simp [hq, hg])
theorem Values1_ok {A : Amb} {h0 : Heap} {b : Nat} {T : TypeId} {fr : Nat × Nat} {s : Sl} {l : List Pr} (hb : h0[b]? = some (.cells #[.slice s.p s.len s.cap] T fr)) (v : View PairE h0 s l) (hl : l.length ≤ 1099511627776) :
  IterV A P (.func (.func f_slices_Values_of___api_Pair_api_Pair_1) #[] #[.pointer (some ⟨b, 0, none⟩)]) (fun c => c < h0.size ∧ (c = b ∨ s.blk = some c)) h0 l := by
 refine ⟨fun c hc => hc.1, _, _, rfl, fun yv => by kernel_rfl, fun h hS yv J O hy hd hB hY hJ => ?_⟩
 rw [cat1]
 refine ok_slices_Values_of___api_Pair_api_Pair_1 ?_
 unfold F_slices_Values_of___api_Pair_api_Pair_1
 have hbl := blk_lt hb
 have hbS : ∀ hh, Mod O h hh → hh[b]? = some (.cells #[.slice s.p s.len s.cap] T fr) := fun hh m => by
  have e := hS b ⟨hbl, .inl rfl⟩
  exact m.blk (e.trans hb) (hd b ⟨hbl, .inl rfl⟩)
 have hvS : ∀ i x, l[i]? = some x → ∃ a, s.p = some a ∧ ∀ hh, Mod O h hh → Cells hh (a.add (i * 3)) (PairE.enc x) := fun i x hi => by
  obtain ⟨a, ha, hc⟩ := v.cells i x hi
  refine ⟨a, ha, fun hh m j u hj => ?_⟩
  have h1 := hc j u hj
  have hlt := hget_lt h1
  rw [add_block, add_block] at hlt
  have hSa : a.block < h0.size ∧ (a.block = b ∨ s.blk = some a.block) := ⟨hlt, .inr (by simp [Sl.blk, ha])⟩
  have e := hS _ hSa
  refine m.hget ((hget_blk ?_).trans h1) ?_
  ·rw [add_block, add_block]; exact e
  ·rw [add_block, add_block]; exact hd _ hSa
 refine LoadL.mk (hget_lit (hbS h Mod.refl) rfl) ?_
 refine Loop.rule (fun m x hh => ∃ (i : Nat) (O1 : Nat → Prop), x = ((i : Int), ()) ∧ m = l.length - i ∧ i ≤ l.length ∧ Mod O h hh ∧ (∀ b, O1 b → O b ∨ h.size ≤ b) ∧ J i true O1 hh) ?_ ⟨0, O, rfl, rfl, by omega, Mod.refl, fun b hb => .inl hb, hJ⟩
 rintro K m _ hh ⟨i, O1, rfl, rfl, hi, md, hsub, hj⟩ hK
 refine PIf.intro (fun hq => ?_) (fun hq => ?_)
 ·have hi' : i < l.length := by simp [v.len] at hq; omega
  obtain ⟨a, ha, hc⟩ := hvS i _ (List.getElem?_eq_getElem hi')
  have c1 := hc hh md
  refine Idx.mk ha (by rw [v.len]; exact hi') ?_
  refine LoadS.mk (c1.pair.1) (LoadS.mk c1.pair.2.1 (LoadB.mk c1.pair.2.2 ?_))
  refine New.pair fun b1 h5 eb hb1 x5 hs5 => ?_
  refine LoadS.mk (hget_lit hb1 rfl) (LoadS.mk (hget_lit1 hb1 rfl) (LoadB.mk (hget_lit1 hb1 rfl) ?_))
  have hj5 := hB.stable _ _ _ _ _ hj (x5.weak (S' := fun b => ¬ O1 b ∧ h.size ≤ b) fun _ _ h => h.elim)
  refine CallV.mono (hY i _ O1 h5 (List.getElem?_eq_getElem hi') hj5) ?_
  rintro _ h6 ⟨g, O2, rfl, hsub2, m6, hj6⟩
  have hsub3 : ∀ b, O2 b → O b ∨ h.size ≤ b := fun b hb => (hsub2 b hb).elim (hsub b) fun hle => .inr (by have := md.size; have := x5.size; omega)
  have md6 : Mod O h h6 := (md.trans x5.mod).then (m6.weak fun b _ hb => (hsub b hb))
  refine ⟨g, rfl, ?_⟩
  refine PIf.intro (fun hq => ?_) (fun hq => ?_)
  ·refine ⟨rfl, i + 1, g, O2, md6, hsub3, hj6, fun hg => ?_, by omega⟩
   subst hg; cases hq
  ·have hg : g = true := by simpa using hq
   subst hg
   exact hK _ _ _ (by omega) ⟨i + 1, O2, by rw [wrap_succ (by omega)], rfl, by omega, md6, hsub3, hj6⟩
 ·have hi' : i = l.length := by simp [v.len] at hq; omega
  exact ⟨rfl, i, true, O1, md, hsub, hj, fun _ => hi', by omega⟩
theorem Values_ok {A : Amb} {h : Heap} {s : Sl} {l : List Pr} {R : Value → Heap → Prop} (v : View PairE h s l) (hl : l.length ≤ 1099511627776)
  (H : ∀ fv h', IterV A P fv (fun c => c < h'.size ∧ (c = h.size ∨ s.blk = some c)) h' l → Ext h h' → h'.size = h.size + 1 → R fv h') : HCalls A P f_slices_Values_of___api_Pair_api_Pair #[.slice s.p s.len s.cap] h R := by
 refine ok_slices_Values_of___api_Pair_api_Pair ?_
 unfold F_slices_Values_of___api_Pair_api_Pair
 refine New.mk fun h1 _ hb1 hx hsz => ?_
 exact H _ h1 (Values1_ok hb1 (v.ext hx) hl) hx hsz
theorem Some_ok {A : Amb} {h : Heap} {fv : Value} {S : Nat → Prop} {l : List Pr} {vto : ByteArray} {most : Int} {R : Value → Heap → Prop} (it : (fv = .nilFunc ∧ l = []) ∨ IterV A P fv S h l) (hl : l.length ≤ 1099511627776)
  (H : ∀ s' h', Own PairE t_api_Pair h' s' (someL vto most l) → (∀ c, s'.blk = some c → h.size ≤ c) → Ext h h' → R (.slice s'.p s'.len s'.cap) h') : HCalls A P f_merge_Some #[fv, .string vto, .int .i64 most] h R := by
 refine ok_merge_Some ?_
 unfold F_merge_Some
 refine New.mk fun h1 _ hb1 hx1 hsz1 => New.mk fun h2 _ hb2 hx2 hsz2 => New.mk fun h3 _ hb3 hx3 hsz3 => ?_
 have hx : Ext h h3 := (hx1.trans hx2).trans hx3
 have hbv : h3[h.size]? = some (.cells #[.string vto] t_string (0, 0)) := hx3.blk (hx2.blk hb1 (by simp)) (by simp)
 have hbm : h3[h1.size]? = some (.cells #[.int .i64 most] t_int (0, 0)) := hx3.blk hb2 (by simp)
 refine Join.mk fun K hK => ?_
 have hnil : someL vto most l = [] → K (true, ()) h3 := fun e => hK _ _ (PIf.yes rfl (H ⟨none, 0, 0⟩ h3 (e ▸ Own.nil) (fun c hc => by simp [Sl.blk] at hc) hx))
 rcases it with ⟨rfl, rfl⟩ | it
 ·exact ⟨trivial, PIf.yes rfl (hnil (by simp [someL]))⟩
 refine ⟨it.one.2.1, PIf.no it.one.2.2 ?_⟩
 refine LoadI.mk (hget_lit hbm rfl) ?_
 cases hmost : decide (most ≤ 0)
 ·refine hK _ _ (PIf.no rfl ?_)
  have hmost : 0 < most := by simpa using hmost
  have hmd : ∀ h' : Heap, Mod (fun c => c = h2.size) h3 h' → Ext h h' := fun h' m => hx.then (m.weak fun c _ hc => .inr (by omega))
  have htl := (List.takeWhile_sublist (l := l) (lowT vto)).length_le
  refine range_iter it (fun b hb => hx.get b (it.1 b hb) (by simp))
   (fun i c O hh => hh[h.size]? = some (.cells #[.string vto] t_string (0, 0)) ∧ hh[h1.size]? = some (.cells #[.int .i64 most] t_int (0, 0)) ∧ ∃ (s : Sl) (acc : List Pr), hh[h2.size]? = some (.cells #[.slice s.p s.len s.cap] t_sl_api_Pair (0, 0)) ∧ Own PairE t_api_Pair hh s acc ∧ (∀ b, O b ↔ (b = h2.size ∨ s.blk = some b)) ∧ (∀ b, s.blk = some b → b < hh.size ∧ h2.size < b) ∧ match c with
    | none => acc = l.take i ∧ i ≤ (l.takeWhile (lowT vto)).length ∧ (i : Int) < most
    | some j => j = some 0 ∧ acc = someL vto most l)
   (fun b => b = h2.size) (fun b hb e => by have := it.1 b hb; omega) ?_ ?_ ?_ ?_ ?_ ?_
  ·rintro i c O hh ⟨_, _, s, acc, h2, o, hO, hlt, _⟩ b hb
   rcases (hO b).1 hb with rfl | h3
   ·exact blk_lt h2
   ·exact (hlt b h3).1
  ·rintro i c O hh h' ⟨e1, e2, s, acc, hk2, o, hO, hlt, hm⟩ m
   refine ⟨m.blk e1 (fun h => by omega), m.blk e2 (fun h => by omega), s, acc, m.blk hk2 (fun hn => hn.1 ((hO _).2 (.inl rfl))), o.mod m (fun c hc hn => hn.1 ((hO _).2 (.inr hc))), hO, fun b hb => ⟨?_, (hlt b hb).2⟩, hm⟩
   have := m.size; have := (hlt b hb).1; omega
  ·exact ⟨hbv, hbm, ⟨none, 0, 0⟩, [], hb3, Own.nil, fun b => by simp [Sl.blk], fun b hb => by simp [Sl.blk] at hb, by simp, by omega, by simpa using hmost⟩
  ·rintro i x O1 hh rec kn' kj' hi ⟨e1, e2, s, acc, hk2, o, hO, hlt, rfl, htw, him⟩ nO hsz1 hrec hst hkn hkj
   have hil := (List.getElem?_eq_some_iff.1 hi).1
   have hst2 := takeWhile_step (p := lowT vto) (l := l) htw
   refine New.pair fun b1 h7 eb hb7 x7 hs7 => ?_
   refine ⟨rec, x7.blk hrec (by simp), hst, ?_⟩
   generalize hg : h7.setIfInBounds (h3.size + 1) (.loop { rec with state := .busy }) = h8
   have m8 : Mod (fun b => b = h3.size + 1) h7 h8 := hg ▸ Mod.setObj rfl
   have hl8 : h8[h3.size + 1]? = some (.loop { rec with state := .busy }) := by rw [← hg]; exact setObj_self (by omega)
   have hb8 := m8.blk hb7 (by omega)
   have e18 := m8.blk (x7.blk e1 (by simp)) (by omega)
   have e28 := m8.blk (x7.blk e2 (by simp)) (by omega)
   have m08 : Mod (fun b => b = h3.size + 1) hh h8 := (Ext.mod x7).trans m8
   have hk28 := m8.blk (x7.blk hk2 (by simp)) (by omega)
   have hlt1 := blk_lt hk2
   have o8 := (o.ext x7).mod m8 (fun c hc e => nO ((hO _).2 (.inr (e ▸ hc))))
   have hs8 := m8.size
   have hlen : (l.take i).length = i := by simp; omega
   refine Join.mk fun K1 hK1 => ?_
   have hstop : lowT vto x = false → K1 (true, ()) h8 := fun hp => hK1 _ _ (PIf.yes rfl (hkj _ _ (by
    refine ⟨O1, fun b hb => .inl hb, m08.weak fun b _ hb => .inr hb, hl8, e18, e28, s, l.take i, hk28, o8, hO, fun b hb => ⟨?_, (hlt b hb).2⟩, rfl, ?_⟩
    ·have := (hlt b hb).1; omega
    ·have := hst2.2.1 _ hi hp
     have e1 : (l.takeWhile (lowT vto)).take i = l.takeWhile (lowT vto) := List.take_of_length_le (by omega)
     have e2 : (l.takeWhile (lowT vto)).take most.toNat = l.takeWhile (lowT vto) := List.take_of_length_le (by omega)
     unfold someL
     rw [e2, ← take_tw htw, e1])))
   have hgo : lowT vto x = true → K1 (false, ()) h8 := fun hp => hK1 _ _ (PIf.no rfl (by
    have hlt2 := hst2.1 _ hi hp
    refine LoadL.mk (hget_lit hk28 rfl) (LoadS.mk (hget_lit hb8 rfl) (LoadS.mk (hget_lit1 hb8 rfl) (LoadB.mk (hget_lit1 hb8 rfl) ?_)))
    refine New.append1 (E := PairE) (x := x) rfl app_pair o8 (by rw [hlen]; omega) (by rw [hlen]; simp [maxLen]; omega) fun s4 h9 o9 m9 bl9 _ => ?_
    have hbl : s.blk ≠ some h2.size := fun e => by have := hlt _ e; omega
    refine Store.mk (m9.blk hk28 hbl) (by simp) fun h10 hb10 m10 hs10 => ?_
    have hsz9 := m9.size
    have hb10' : h10[h2.size]? = some (.cells #[.slice s4.p s4.len s4.cap] t_sl_api_Pair (0, 0)) := by simpa using hb10
    have o10 := o9.mod m10 (fun c hc e => by
     rcases bl9 c hc with h3 | h3
     ·have := hlt _ h3; omega
     ·omega)
    have e110 := m10.blk (m9.blk e18 (fun e => by have := hlt _ e; omega)) (by omega)
    have e210 := m10.blk (m9.blk e28 (fun e => by have := hlt _ e; omega)) (by omega)
    have hacc : l.take i ++ [x] = l.take (i + 1) := by rw [List.take_add_one, hi]; rfl
    rw [hacc] at o10
    have r1 : ∀ b, (b = h2.size ∨ s4.blk = some b) → O1 b ∨ hh.size ≤ b := by
     rintro b (rfl | hb)
     ·exact .inl ((hO _).2 (.inl rfl))
     ·rcases bl9 b hb with h3 | h3
      ·exact .inl ((hO _).2 (.inr h3))
      ·exact .inr (by omega)
    have r2 : Mod (fun b => O1 b ∨ b = h3.size + 1) hh h10 :=
     ((m08.weak fun b _ hb => .inr hb).trans (m9.weak fun b _ hb => .inl ((hO _).2 (.inr hb)))).trans (m10.weak fun b _ hb => .inl ((hO _).2 (.inl hb)))
    have r3 := m10.blk (m9.blk hl8 (fun e => nO ((hO _).2 (.inr e)))) (by omega)
    have r4 : ∀ b, s4.blk = some b → b < h10.size ∧ h2.size < b := by
     intro b hb
     have hbs : b < h9.size := by
      rcases o9.row with ⟨rfl, _⟩ | ⟨g, cur, hp, hgg, _⟩
      ·simp [Sl.blk] at hb
      ·simp [Sl.blk, hp] at hb; subst hb; exact blk_lt hgg
     refine ⟨by omega, ?_⟩
     rcases bl9 b hb with h3 | h3
     ·exact (hlt _ h3).2
     ·omega
    refine LoadL.mk (hget_lit hb10' rfl) (LoadI.mk (hget_lit e210 rfl) ?_)
    have hs4 : s4.len = i + 1 := by rw [o10.len]; simp; omega
    refine PIf.intro (fun hq => hkj _ _ ?_) (fun hq => hkn _ ?_)
    ·refine ⟨_, r1, r2, r3, e110, e210, s4, _, hb10', o10, fun _ => Iff.rfl, r4, rfl, ?_⟩
     have hq : ((i + 1 : Nat) : Int) = most := by rw [hs4] at hq; simpa using hq
     unfold someL
     rw [← hq, Int.toNat_natCast, take_tw (by omega)]
    ·refine ⟨_, r1, r2, r3, e110, e210, s4, _, hb10', o10, fun _ => Iff.rfl, r4, rfl, by omega, ?_⟩
     have hq : ((i + 1 : Nat) : Int) ≠ most := by rw [hs4] at hq; simpa using hq
     omega))
   refine LoadS.mk (hget_lit e18 rfl) ?_
   rw [sEq_iff]
   refine PIf.intro (fun he => ?_) (fun he => ?_)
   ·refine LoadS.mk (hget_lit hb8 rfl) (LoadS.mk (hget_lit e18 rfl) ?_)
    show K1 (!sLt x.key vto, ()) h8
    cases hs : sLt x.key vto
    ·exact hstop (by simp at he; simp [lowT, he, hs])
    ·exact hgo (by simp [lowT, hs])
   ·exact hgo (by simp at he; simp [lowT, he])
  ·rintro O' h' ⟨_, _, s, acc, hk2, o, hO, hlt, rfl, htw, him⟩ md n1 hsub hdf
   have hsz' := md.size
   refine LoadL.mk (hget_lit hk2 rfl) ⟨hdf, ?_⟩
   have : someL vto most l = l.take l.length := by
    unfold someL
    rw [List.take_of_length_le (by omega), ← take_tw htw, List.take_of_length_le (by omega)]
   rw [← this] at o
   refine H s _ (o.mod (Mod.setObj (S := fun c => c = h3.size) rfl) fun c hc e => n1 ((hO _).2 (.inr (e ▸ hc)))) (fun c hc => by have := hlt _ hc; omega) ?_
   exact (hmd h' md).then (Mod.setObj (.inr (by omega)))
  ·rintro i j O' h' ⟨_, _, s, acc, hk2, o, hO, hlt, rfl, rfl⟩ hi md n1 hsub hdf
   have hsz' := md.size
   refine LoadL.mk (hget_lit hk2 rfl) ⟨hdf, ?_⟩
   refine H s _ (o.mod (Mod.setObj (S := fun c => c = h3.size) rfl) fun c hc e => n1 ((hO _).2 (.inr (e ▸ hc)))) (fun c hc => by have := hlt _ hc; omega) ?_
   exact (hmd h' md).then (Mod.setObj (.inr (by omega)))
 ·refine hnil ?_
  have : most.toNat = 0 := by simp at hmost; omega
  simp [someL, this]
end Go.Lf.G.M

/-
 Contracts: a store is read: Get, Scan, Shape (chapter 9).
-/
set_option maxRecDepth 100000
set_option linter.unusedVariables false
set_option linter.unusedSimpArgs false
namespace Go.Lf.G
open Go
open M (Sorted findK putL putsL refAllL findLs GoodL wrongP OkL liveL atK someL lowT)
/-! ### plain law: what is scanned -/
def keyR (f t k : ByteArray) : Bool := !sLt k f && (decide (t = ⟨#[]⟩) || sLt k t)
def cutL (f t : ByteArray) (l : List Pr) : List Pr := l.filter fun x => keyR f t x.key
def scanM (m : List Pr) (f t : ByteArray) (most : Int) : List Pr := (cutL f t m).take most.toNat
theorem find_filter {p : Pr → Bool} {r : ByteArray → Bool} (hp : ∀ x, p x = r x.key) (k : ByteArray) : ∀ l : List Pr, findK k (l.filter p) = if r k then findK k l else none
 | [] => by split <;> rfl
 | x :: l => by
  have ih := find_filter hp k l
  rw [List.filter_cons, M.findK_cons]
  by_cases h : x.key = k
  ·rw [if_pos h]
   cases hr : r k with
   | true => rw [if_pos (by rw [hp, h]; exact hr), M.findK_cons, if_pos h]; rfl
   | false =>
    rw [if_neg (by rw [hp, h, hr]; decide), ih, hr]; rfl
  ·rw [if_neg h]
   split
   ·rw [M.findK_cons, if_neg h]; exact ih
   ·exact ih
theorem drop_at (k : ByteArray) : ∀ {l : List Pr}, Sorted l → l.drop (atK k l) = l.filter fun x => !sLt x.key k
 | [], _ => by simp
 | x :: l, s => by
  have s' := List.pairwise_cons.1 s
  rw [atK_cons, List.filter_cons]
  by_cases h : sLt x.key k = true
  ·rw [if_pos h, if_neg (by simp [h]), List.drop_succ_cons]; exact drop_at k s'.2
  ·have hall : ∀ y ∈ l, (!sLt y.key k) = true := fun y hy => by
    have h1 := s'.1 y hy
    cases h2 : sLt y.key k with
    | false => rfl
    | true => exact absurd (M.sLt_trans h1 h2) h
   rw [if_neg h, if_pos (by simp [h]), List.drop_zero, List.filter_eq_self.2 hall]
theorem tw_low (t : ByteArray) : ∀ {l : List Pr}, Sorted l → l.takeWhile (lowT t) = l.filter (lowT t)
 | [], _ => rfl
 | x :: l, s => by
  have s' := List.pairwise_cons.1 s
  rw [List.takeWhile_cons, List.filter_cons]
  by_cases h : lowT t x = true
  ·rw [if_pos h, if_pos h, tw_low t s'.2]
  ·rw [if_neg h, if_neg h]
   refine (List.filter_eq_nil_iff.2 fun y hy hy2 => h ?_).symm
   have h1 := s'.1 y hy
   unfold M.lowT at hy2 ⊢
   rw [Bool.or_eq_true] at hy2 ⊢
   rcases hy2 with h2 | h2
   ·exact .inl h2
   ·exact .inr (M.sLt_trans h1 h2)
theorem some_cut {f t : ByteArray} {l : List Pr} (s : Sorted l) (hl : l.length ≤ 1099511627776) : someL t 1099511627776 (l.drop (atK f l)) = cutL f t l := by
 unfold M.someL
 have s2 : Sorted (l.drop (atK f l)) := s.sublist (List.drop_sublist _ _)
 rw [tw_low t s2, drop_at f s, List.filter_filter, List.take_of_length_le]
 ·unfold cutL
  exact List.filter_congr fun x _ => by unfold keyR M.lowT; rw [Bool.and_comm]
 ·have h1 := List.length_filter_le (fun a => lowT t a && !sLt a.key f) l
  have : (1099511627776 : Int).toNat = 1099511627776 := rfl
  omega
theorem cut_sorted {f t : ByteArray} {l : List Pr} (s : Sorted l) : Sorted (cutL f t l) := s.sublist List.filter_sublist
theorem cut_find (k f t : ByteArray) (l : List Pr) : findK k (cutL f t l) = if keyR f t k then findK k l else none := find_filter (fun _ => rfl) k l
theorem cut_finds (k f t : ByteArray) : ∀ ls : List (List Pr), findLs k (ls.map (cutL f t)) = if keyR f t k then findLs k ls else none
 | [] => by split <;> rfl
 | l :: ls => by
  rw [List.map_cons, M.findLs_cons, M.findLs_cons, cut_finds k f t ls, cut_find]
  split <;> rfl
theorem cut_ok {f t : ByteArray} {ls : List (List Pr)} (o : OkL ls) : OkL (ls.map (cutL f t)) := ⟨fun l hl => by
  obtain ⟨x, hx, rfl⟩ := List.mem_map.1 hl
  exact cut_sorted (o.sorted x hx), fun l hl => by
  obtain ⟨x, hx, rfl⟩ := List.mem_map.1 hl
  exact fun y hy => o.good x hx y (List.mem_filter.1 hy).1⟩
theorem all_cut {f t : ByteArray} {ls : List (List Pr)} (o : OkL ls) : refAllL (ls.map (cutL f t)) = cutL f t (refAllL ls) :=
 (M.refAllL_sorted _).ext (cut_sorted (M.refAllL_sorted _)) fun k => by rw [M.refAllL_find k (cut_ok o), cut_finds, cut_find, M.refAllL_find k o]
theorem scan_is {f t : ByteArray} {ls : List (List Pr)} (o : OkL ls) (most : Int) : someL t most (liveL (refAllL (ls.map (cutL f t)))) = scanM (liveL (refAllL ls)) f t most := by
 rw [all_cut o]
 have e : liveL (cutL f t (refAllL ls)) = cutL f t (liveL (refAllL ls)) := by
  unfold M.liveL cutL
  rw [List.filter_filter, List.filter_filter]
  exact List.filter_congr fun x _ => Bool.and_comm ..
 rw [e]
 unfold M.someL scanM
 have h : ∀ x ∈ cutL f t (liveL (refAllL ls)), lowT t x = true := fun x hx => by
  have := (List.mem_filter.1 hx).2
  unfold keyR at this
  rw [Bool.and_eq_true] at this
  exact this.2
 rw [tw_low t (cut_sorted (live_sorted (M.refAllL_sorted _))), List.filter_eq_self.2 h]
/-! ### sequences that are laid one behind the other -/
def SeqI (A : Amb) (h : Heap) (s : Sl) (ls : List (List Pr)) : Prop :=
 ∃ vs, Own ValE t_iter_Seq_wherry_api_Pair h s vs ∧ vs.length = ls.length ∧ ∀ (i : Nat) (v : OneV) (l : List Pr), vs[i]? = some v → ls[i]? = some l → (∃ S, IterV A P v.v S h l ∧ ∀ c, S c → s.blk ≠ some c) ∧ l.length ≤ 1099511627776
theorem IterV.at {A : Amb} {fv : Value} {S T : Nat → Prop} {h h' : Heap} {l : List Pr} (it : IterV A P fv S h l) (x : Mod T h h') (hT : ∀ c, S c → ¬ T c) : IterV A P fv S h' l :=
 IterV.weak it (fun _ h => h) (fun c hc => by have := it.1 c hc; have := x.size; omega) fun c hc => x.get c (it.1 c hc) (hT c hc)
theorem SeqI.ext {A : Amb} {h h' : Heap} {s : Sl} {ls : List (List Pr)} (q : SeqI A h s ls) (x : Ext h h') : SeqI A h' s ls := by
 obtain ⟨vs, o, hl, hi⟩ := q
 refine ⟨vs, o.ext x, hl, fun i v l h1 h2 => ?_⟩
 obtain ⟨⟨S, it, hS⟩, hn⟩ := hi i v l h1 h2
 exact ⟨⟨S, IterV.at it x (fun _ _ h => h), hS⟩, hn⟩
theorem SeqI.nil {A : Amb} {h : Heap} : SeqI A h ⟨none, 0, 0⟩ [] := ⟨[], Own.nil, rfl, fun i v l h => by simp at h⟩
theorem SeqI.seqs {A : Amb} {h : Heap} {s : Sl} {ls : List (List Pr)} (q : SeqI A h s ls) : M.Seqs A (fun _ => False) h s ls := by
 obtain ⟨vs, o, hl, hi⟩ := q
 refine ⟨vs, o.view, fun c hc => ⟨o.lt hc, fun h => h⟩, hl, fun i v l h1 h2 => .inr ?_⟩
 obtain ⟨⟨S, it, hS⟩, hn⟩ := hi i v l h1 h2
 exact ⟨it.weak (fun c hc => ⟨it.1 c hc, fun h => h⟩) (fun c hc => hc.1) (fun _ _ => rfl), hn⟩
theorem SeqI.one {A : Amb} {h h1 : Heap} {fv : Value} {l : List Pr} {S : Nat → Prop} {b : Nat} (it : IterV A P fv S h l) (hl : l.length ≤ 1099511627776) (hb : h1[b]? = some (.cells #[fv] t_iter_Seq_wherry_api_Pair (0, 0))) (x : Ext h h1) (hn : h.size ≤ b) : SeqI A h1 ⟨some ⟨b, 0, none⟩, 1, 1⟩ [l] := by
 refine ⟨[⟨fv, it.one.1⟩], Own.lit (l := [(⟨fv, it.one.1⟩ : OneV)]) hb rfl (by simp [maxLen]), rfl, fun i v l' h1 h2 => ?_⟩
 have hi : i = 0 := by
  have := (List.getElem?_eq_some_iff.1 h1).1
  simpa using this
 subst hi
 simp only [List.getElem?_cons_zero, Option.some.injEq] at h1 h2
 subst h1 h2
 exact ⟨⟨S, IterV.at it x (fun _ _ h => h), fun c hc e => by have := it.1 c hc; simp [Sl.blk] at e; omega⟩, hl⟩
theorem SeqI.add {A : Amb} {h : Heap} {s : Sl} {ls : List (List Pr)} {fv : Value} {l : List Pr} {S : Nat → Prop} {K : Sl → Heap → Prop} {ty : TypeId} (q : SeqI A h s ls) (it : IterV A P fv S h l) (hS : ∀ c, S c → s.blk ≠ some c) (hl : l.length ≤ 1099511627776) (hls : ls.length ≤ 1000000)
  (H : ∀ s' h', SeqI A h' s' (ls ++ [l]) → Mod (fun b => s.blk = some b) h h' → (∀ b, s'.blk = some b → s.blk = some b ∨ h.size ≤ b) → K s' h') :
  New h (.cells #[fv] t_iter_Seq_wherry_api_Pair) fun b h1 => RunK A P (Builtin.append_ #[t_sl_iter_Seq_wherry_api_Pair, t_sl_iter_Seq_wherry_api_Pair] ty #[.slice s.p s.len s.cap, .slice (some ⟨b, 0, none⟩) 1 1]) h1 fun v h' => ∃ s' : Sl, v = .slice s'.p s'.len s'.cap ∧ K s' h' := by
 obtain ⟨vs, o, hvl, hi⟩ := q
 refine New.append1 (E := ValE) (x := ⟨fv, it.one.1⟩) (s := s) (l := vs) rfl M.app_seq o (by omega) (by simp [maxLen]; omega) fun s' h' o' m' b' _ => ?_
 have hfresh : ∀ {T : Nat → Prop} {w : Value} {l' : List Pr}, IterV A P w T h l' → (∀ c, T c → s.blk ≠ some c) → ∃ S, IterV A P w S h' l' ∧ ∀ c, S c → s'.blk ≠ some c := fun {T} w l' it hT => ⟨T, IterV.at it m' (fun c hc => hT c hc), fun c hc e => by
  rcases b' c e with h1 | h1
  ·exact hT c hc h1
  ·have := it.1 c hc; omega⟩
 refine H s' h' ⟨vs ++ [⟨fv, it.one.1⟩], o', by simp [hvl], fun i v l' h1 h2 => ?_⟩ m' b'
 by_cases hlt : i < vs.length
 ·rw [List.getElem?_append_left hlt] at h1
  rw [List.getElem?_append_left (by omega)] at h2
  obtain ⟨⟨T, it', hT⟩, hn⟩ := hi i v l' h1 h2
  exact ⟨hfresh it' hT, hn⟩
 ·have hi : i = vs.length := by
   have := (List.getElem?_eq_some_iff.1 h1).1
   simp at this; omega
  subst hi
  rw [List.getElem?_append_right (Nat.le_refl _)] at h1
  rw [List.getElem?_append_right (by omega)] at h2
  simp at h1
  rw [hvl] at h2
  simp at h2
  subst h1 h2
  exact ⟨hfresh it hS, hl⟩
section
variable {A : Amb} {g h : Heap} {q : Hp} {k : Nat → Nat} {st : Db} {m : Bx} {R : Value → Heap → Prop}
def tabsS (st : Db) : List (List Pr) := st.ts.map (·.2)
def mapS (st : Db) : List Pr := storeL st.fr (tabsS st)
theorem DbH.tabok (W : DbH g h q k st m) : ∀ p ∈ st.ts, TabOk p.2 := fun p hp => by
 obtain ⟨i, hi, rfl⟩ := List.getElem_of_mem hp
 have hip : i < q.ps.length := by rw [W.tlen]; exact hi
 obtain ⟨lo, hi', _, _, _, t⟩ := W.tab i q.ps[i] st.ts[i] (List.getElem?_eq_getElem hip) (List.getElem?_eq_getElem hi)
 exact t
theorem DbH.okL (W : DbH g h q k st m) : OkL (st.fr :: tabsS st) := by
 refine ⟨fun l hl => ?_, fun l hl => ?_⟩ <;> rcases List.mem_cons.1 hl with rfl | hl
 ·exact W.fresh.sorted
 ·obtain ⟨p, hp, rfl⟩ := List.mem_map.1 hl
  exact (W.tabok p hp).good.1
 ·exact W.fresh.good
 ·obtain ⟨p, hp, rfl⟩ := List.mem_map.1 hl
  exact (W.tabok p hp).good.2
theorem cut_len (f t : ByteArray) (l : List Pr) : (cutL f t l).length ≤ l.length := List.length_filter_le ..
theorem all_ok {f t : ByteArray} (W : DbH g h q k st m) (hf : st.fr.length ≤ 1000000) (hts : st.ts.length ≤ 100000)
  (H : ∀ fv h', IterV A P fv (fun c => c < h'.size) h' (refAllL ((st.fr :: tabsS st).map (cutL f t))) → Ext h h' → R fv h') : HCalls A P f_lsm_DB_all #[ptrV q.d, .string f, .string t] h R := by
 refine ok_lsm_DB_all ?_
 unfold F_lsm_DB_all
 refine atI (LoadP.mk (hget_lit1 W.cell rfl) ?_)
 refine M.mFrom_ok W.fresh fun fv h1 it1 x1 s1 => ⟨_, rfl, ?_⟩
 refine M.Some_ok (.inr it1) (by rw [List.length_drop]; omega) fun sl h2 o2 b2 x2 => ⟨_, rfl, ?_⟩
 rw [some_cut W.fresh.sorted (by omega)] at o2
 have l0 := cut_len f t st.fr
 refine M.Values_ok o2.view (by omega) fun fv3 h3 it3 x3 s3 => ⟨_, rfl, OneK.mk it3.one.1 (New.mk fun h4 _ hb4 x4 s4 => ?_)⟩
 have q4 := SeqI.one it3 (by omega) hb4 x4 (Nat.le_refl _)
 have x04 := ((x1.trans x2).trans x3).trans x4
 have W4 := W.on x04
 refine atI (LoadL.mk (s := q.tp) (hget_lit1 W4.cell rfl) ?_)
 have hpl := W.tlen
 have htl := W.tabs.len
 refine Loop.rule (fun mm x hh => ∃ (i : Nat) (sl : Sl), x = (sl, (i : Int), ()) ∧ mm = q.ps.length - i ∧ i ≤ q.ps.length ∧ Ext h hh ∧ (∀ c, sl.blk = some c → h.size ≤ c) ∧ SeqI A hh sl ((st.fr :: (tabsS st).take i).map (cutL f t))) ?_ ⟨0, ⟨some ⟨h3.size, 0, none⟩, 1, 1⟩, rfl, rfl, by omega, x04, fun c hc => by
  simp [Sl.blk] at hc
  have := ((x1.trans x2).trans x3).size; omega, by simpa using q4⟩
 rintro K mm _ hh ⟨i, sl, rfl, rfl, hi, x0h, hbl, qq⟩ hK
 dsimp only
 refine PIf.intro (fun hq => ?_) (fun hq => ?_)
 ·have hil : i < q.ps.length := by rw [← htl]; simpa using hq
  have his : i < st.ts.length := by omega
  have g1 : q.ps[i]? = some q.ps[i] := List.getElem?_eq_getElem hil
  have g2 : st.ts[i]? = some st.ts[i] := List.getElem?_eq_getElem his
  have g3 : (tabsS st)[i]? = some st.ts[i].2 := by unfold tabsS; rw [List.getElem?_map, g2]; rfl
  have Wh := W.on x0h
  refine Wh.tabs.view.idx g1 fun a _ c => LoadP.mk (Cells.pt c) ?_
  obtain ⟨lo, hi', T1, t1, t2, t3⟩ := Wh.tab i _ _ g1 g2
  refine TFrom_ok T1 t1 t3.tabS fun fv5 h5 it5 x5 s5 => ⟨_, rfl, ?_⟩
  have hm := t3.many
  refine M.Some_ok (.inr it5) (by rw [List.length_drop]; omega) fun sl6 h6 o6 b6 x6 => ⟨_, rfl, ?_⟩
  rw [some_cut t3.good.1 (by omega)] at o6
  have l1 := cut_len f t st.ts[i].2
  refine M.Values_ok o6.view (by omega) fun fv7 h7 it7 x7 s7 => ⟨_, rfl, OneK.mk it7.one.1 ?_⟩
  have x57 := (x5.trans x6).trans x7
  refine SeqI.add (qq.ext x57) it7 (fun c hc e => ?_) (by omega) (by simp [tabsS]; omega) fun s' h' q' m' b' => ?_
  ·obtain ⟨vs, ov, _, _⟩ := qq
   have hlt := ov.lt e
   rcases hc.2 with h1 | h1
   ·have := (x5.trans x6).size; omega
   ·have := b6 c h1; have := x5.size; omega
  ·rw [wrap_succ (by omega)]
   refine hK (q.ps.length - (i + 1)) _ _ (by omega) ⟨i + 1, s', rfl, rfl, hil, ?_, fun c hc => ?_, ?_⟩
   ·exact (x0h.trans x57).then (m'.weak fun c _ hc => .inr (hbl c hc))
   ·rcases b' c hc with h1 | h1
    ·exact hbl c h1
    ·have := x0h.size; have := x57.size; omega
   ·rw [List.take_add_one, g3]
    simpa using q'
 ·have hil : i = q.ps.length := by
   have : ¬ i < q.tp.len := by simpa using hq
   omega
  subst hil
  rw [List.take_of_length_le (by simp [tabsS]; omega)] at qq
  refine M.All_ok qq.seqs (fun c h => h.elim) (by simp [tabsS]; omega) (cut_ok W.okL) fun fv h' it x _ => ⟨_, rfl, H fv h' (it.weak (fun c hc => hc.1) (fun c hc => hc) (fun _ _ => rfl)) (x0h.trans x)⟩
theorem notdown (W : DbH g h q k st m) {K : Bool × Unit → Heap → Prop} (H : K (false, ()) h) : PIf ((some (⟨q.d, 0, none⟩ : Addr)).isNone) (K (true, ()) h) (At (some (⟨q.d, 0, none⟩ : Addr)) fun a => LoadB h (a.add 8) fun t => K (t, ()) h) :=
 PIf.no rfl (atI (LoadB.mk (hget_lit1 W.cell rfl) H))
theorem Scan_ok {f t : ByteArray} {most : Int} (W : DbH g h q k st m) (hf : st.fr.length ≤ 1000000) (hts : st.ts.length ≤ 100000) (hmap : (refAllL (st.fr :: tabsS st)).length ≤ 1099511627776)
  (H : ∀ s h', Own PairE t_api_Pair h' s (scanM (mapS st) f t most) → (∀ c, s.blk = some c → h.size ≤ c) → Ext h h' → R (.tuple #[.slice s.p s.len s.cap, .int .i64 0]) h') : HCalls A P f_lsm_DB_Scan #[ptrV q.d, .string f, .string t, .int .i64 most] h R := by
 refine ok_lsm_DB_Scan ?_
 unfold F_lsm_DB_Scan
 refine Join.mk fun K hK => notdown W (hK _ _ (PIf.no rfl ?_))
 refine all_ok W hf hts fun fv h1 it x1 => ⟨_, rfl, ?_⟩
 refine M.Live_ok (.inr it) fun fv2 h2 it2 x2 s2 => ⟨_, rfl, ?_⟩
 have hl : (liveL (refAllL ((st.fr :: tabsS st).map (cutL f t)))).length ≤ 1099511627776 := by
  rw [all_cut W.okL]
  have h1 := live_len (cutL f t (refAllL (st.fr :: tabsS st)))
  have h2 := cut_len f t (refAllL (st.fr :: tabsS st))
  omega
 refine M.Some_ok (.inr it2) hl fun s3 h3 o3 b3 x3 => ⟨s3, rfl, ?_⟩
 rw [scan_is W.okL] at o3
 exact H s3 h3 o3 (fun c hc => by have := b3 c hc; have := (x1.trans x2).size; omega) ((x1.trans x2).trans x3)
theorem getL_find (key : ByteArray) : ∀ {l : List Pr}, Sorted l → M.getL key l = getT key l
 | [], _ => rfl
 | x :: l, s => by
  have s' := List.pairwise_cons.1 s
  have ih := getL_find key s'.2
  unfold M.getL getT at ih ⊢
  rw [atK_cons, M.findK_cons]
  by_cases h : sLt x.key key = true
  ·rw [if_pos h, if_neg (M.lt_ne h), List.getElem?_cons_succ]; exact ih
  ·rw [if_neg h, List.getElem?_cons_zero]
   by_cases hk : x.key = key
   ·simp [hk]
   ·have hn : findK key l = none := M.findK_none fun y hy e => h (by
     have := s'.1 y hy
     rwa [e] at this)
    simp [hk, hn]
def getM (m : List Pr) (key : ByteArray) : ByteArray × Bool := match findK key m with | some p => (p.val, true) | none => (⟨#[]⟩, false)
theorem Get_ok {key : ByteArray} (W : DbH g h q k st m) (hts : st.ts.length ≤ 100000) (hk : key.size ≤ 1099511627776)
  (H : ∀ h', Ext h h' → R (.tuple #[.string (getM (mapS st) key).1, .bool (getM (mapS st) key).2, .int .i64 0]) h') : HCalls A P f_lsm_DB_Get #[ptrV q.d, .string key] h R := by
 refine ok_lsm_DB_Get ?_
 unfold F_lsm_DB_Get
 refine Join.mk fun K hK => notdown W (hK _ _ (PIf.no rfl ?_))
 refine atI (LoadP.mk (hget_lit1 W.cell rfl) ?_)
 have hg : ∀ p, (findK key st.fr).or (findLs key (tabsS st)) = some p → getM (mapS st) key = (p.val, !p.gone) := fun p hp => by
  have e : findK key (mapS st) = alive (some p) := by unfold mapS; rw [store_find key W.okL, hp]
  unfold getM
  rw [e, alive_some]
  cases hgo : p.gone with
  | false => rfl
  | true =>
   have hw : wrongP p = 0 := by
    cases hf : findK key st.fr with
    | some x =>
     rw [hf] at hp
     simp only [Option.some_or, Option.some.injEq] at hp
     subst hp
     exact W.fresh.good x (M.findK_key hf).2
    | none =>
     rw [hf, Option.none_or] at hp
     unfold M.findLs at hp
     obtain ⟨l, hl, hx⟩ := List.exists_of_findSome?_eq_some hp
     exact W.okL.good l (List.mem_cons_of_mem _ hl) p (M.findK_key hx).2
   have hv := (ok_of hw).gone hgo
   show ((⟨#[]⟩ : ByteArray), false) = (p.val, !true)
   rw [empty_str hv]; rfl
 have hg0 : (findK key st.fr).or (findLs key (tabsS st)) = none → getM (mapS st) key = (⟨#[]⟩, false) := fun hp => by
  have e : findK key (mapS st) = alive none := by unfold mapS; rw [store_find key W.okL, hp]
  unfold getM
  rw [e]; rfl
 refine M.mGet_ok W.fresh fun h1 x1 => ⟨_, _, _, _, rfl, ?_⟩
 rw [getL_find key W.fresh.sorted]
 refine New.pair fun b h2 _ hb2 x2 s2 => ?_
 have x02 := x1.trans x2
 cases hf : findK key st.fr with
 | some p =>
  have e : getT key st.fr = (p, true) := by unfold getT; rw [hf]
  rw [e] at hb2 ⊢
  refine PIf.yes rfl (LoadS.mk (hget_lit1 hb2 rfl) (LoadB.mk (hget_lit1 hb2 rfl) ?_))
  have := H h2 x02
  rw [hg p (by rw [hf]; rfl)] at this
  exact this
 | none =>
  have e : getT key st.fr = (M.zeroP, false) := by unfold getT; rw [hf]
  rw [e] at hb2 ⊢
  refine PIf.no rfl ?_
  have W2 := W.on x02
  refine atI (LoadL.mk (s := q.tp) (hget_lit1 W2.cell rfl) ?_)
  have hpl := W.tlen
  have htl := W.tabs.len
  refine Loop.rule (fun mm x hh => ∃ i : Nat, x = ((i : Int), ()) ∧ mm = q.ps.length - i ∧ i ≤ q.ps.length ∧ Ext h hh ∧ findLs key ((tabsS st).take i) = none) ?_ ⟨0, rfl, rfl, by omega, x02, rfl⟩
  rintro K2 mm _ hh ⟨i, rfl, rfl, hi, xx, hno⟩ hK2
  dsimp only
  refine PIf.intro (fun hq => ?_) (fun hq => ?_)
  ·have hil : i < q.ps.length := by rw [← htl]; simpa using hq
   have his : i < st.ts.length := by omega
   have g1 : q.ps[i]? = some q.ps[i] := List.getElem?_eq_getElem hil
   have g2 : st.ts[i]? = some st.ts[i] := List.getElem?_eq_getElem his
   have g3 : (tabsS st)[i]? = some st.ts[i].2 := by unfold tabsS; rw [List.getElem?_map, g2]; rfl
   have Wh := W.on xx
   refine Wh.tabs.view.idx g1 fun a _ c => LoadP.mk (Cells.pt c) ?_
   obtain ⟨lo, hi', T1, t1, t2, t3⟩ := Wh.tab i _ _ g1 g2
   refine TGet_ok T1 t3.tabS hk fun h5 x5 => ⟨_, _, _, _, rfl, ?_⟩
   refine New.pair fun b6 h6 _ hb6 x6 s6 => ?_
   have x06 := (xx.trans x5).trans x6
   have htk : (tabsS st).take (i + 1) = (tabsS st).take i ++ [st.ts[i].2] := by rw [List.take_add_one, g3]; rfl
   have hall : findLs key (tabsS st) = (findK key st.ts[i].2).or (findLs key ((tabsS st).drop (i + 1))) := by
    conv => lhs; rw [← List.take_append_drop (i + 1) (tabsS st), htk]
    rw [M.findLs_append, M.findLs_append, hno, M.findLs_cons]
    have : findLs key ([] : List (List Pr)) = none := rfl
    rw [this, Option.or_none, Option.none_or]
   cases hf2 : findK key st.ts[i].2 with
   | some p =>
    have e : getT key st.ts[i].2 = (p, true) := by unfold getT; rw [hf2]
    rw [e] at hb6 ⊢
    refine PIf.yes rfl (LoadS.mk (hget_lit1 hb6 rfl) (LoadB.mk (hget_lit1 hb6 rfl) ?_))
    have := H h6 x06
    rw [hg p (by rw [hf, hall, hf2]; rfl)] at this
    exact this
   | none =>
    have e : getT key st.ts[i].2 = (M.zeroP, false) := by unfold getT; rw [hf2]
    rw [e] at hb6 ⊢
    refine PIf.no rfl ?_
    rw [wrap_succ (by omega)]
    refine hK2 (q.ps.length - (i + 1)) _ _ (by omega) ⟨i + 1, rfl, rfl, hil, x06, ?_⟩
    rw [htk, M.findLs_append, hno, M.findLs_cons, hf2]
    rfl
  ·have hil : i = q.ps.length := by
    have : ¬ i < q.tp.len := by simpa using hq
    omega
   subst hil
   rw [List.take_of_length_le (by simp [tabsS]; omega)] at hno
   have := H hh xx
   rw [hg0 (by rw [hf, hno]; rfl)] at this
   exact this
/-! ### a store that is down, or none -/
theorem down_at {d : Nat} (D : IsDown h d) {K : Bool × Unit → Heap → Prop} (H : K (true, ()) h) : PIf ((some (⟨d, 0, none⟩ : Addr)).isNone) (K (true, ()) h) (At (some (⟨d, 0, none⟩ : Addr)) fun a => LoadB h (a.add 8) fun t => K (t, ()) h) := by
 obtain ⟨c0, c1, c2, c3, c4, c5, c6, c7, hd⟩ := D
 exact PIf.no rfl (atI (LoadB.mk (hget_lit1 hd rfl) H))
end
end Go.Lf.G

