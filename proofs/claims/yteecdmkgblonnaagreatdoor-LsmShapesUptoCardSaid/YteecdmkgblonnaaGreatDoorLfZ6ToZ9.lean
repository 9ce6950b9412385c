/-
 Contracts: a table's file laid; a note written (chapter 9).
-/
import Derived.Test.YteecdmkgblonnaaGreatDoorLfU22ToZ5
import Derived.Test.YteecdmkgblonnaaGreatDoorLfM12ToX4
set_option linter.unusedVariables false
set_option linter.unusedSimpArgs false
set_option maxRecDepth 100000
set_option linter.unusedVariables false
set_option linter.unusedSimpArgs false
namespace Go.Lf.G
open Go
theorem tf_good {n : Nat} (h : n ≤ 99999999) : badName (tfN n) = false := by
 have h1 : (tfN n).size = 1 + (Lib.decDigits n).length := by
  have := bl_size (tfN n)
  rw [tfN_bl] at this
  rw [← this]; simp; omega
 have h2 : (Lib.decDigits n).length ≤ 20 := by rw [Lib.decDigits_length]; exact Lib.nDigits_le20 n (by omega)
 unfold badName
 rw [Bool.or_eq_false_iff, decide_eq_false_iff_not, decide_eq_false_iff_not]
 refine ⟨fun h => ?_, by omega⟩
 rw [h] at h1
 have : bs0.size = 0 := rfl
 omega
theorem lfile_ok {A : Amb} {h : Heap} {n : Nat} {R : Value → Heap → Prop} (E : Evn h) (hn : n ≤ 1099511627776) (H : ∀ h', Ext h h' → R (.string (tfN n)) h') : HCalls A P f_lsm_file #[.int .i64 n] h R := by
 refine ok_lsm_file ?_
 unfold F_lsm_file
 refine Itoa_ok E.tab (by omega) (by omega) fun h1 x1 => ⟨_, rfl, ?_⟩
 have e1 : Lib.itoa (n : Int) = Lib.decDigits n := Lib.itoa_nonneg n
 rw [e1]
 have h2 : (Lib.decDigits n).length ≤ 20 := by rw [Lib.decDigits_length]; exact Lib.nDigits_le20 n (by omega)
 have hl : (⟨(Lib.decDigits n).toArray⟩ : ByteArray).size = (Lib.decDigits n).length := by simp [ByteArray.size]
 refine ⟨?_, ?_⟩
 ·rw [hl, max_i64]
  have : (⟨#[116]⟩ : ByteArray).size = 1 := rfl
  omega
 ·exact H h1 x1
/-- a store that is down -/
def IsDown (h : Heap) (d : Nat) : Prop := ∃ c0 c1 c2 c3 c4 c5 c6 c7, h[d]? = some (.cells #[c0, c1, c2, c3, c4, c5, c6, c7, .bool true] t_lsm_DB (0, 0))
theorem IsDown.mod {S : Nat → Prop} {h h' : Heap} {d : Nat} (D : IsDown h d) (x : Mod S h h') (hS : ¬ S d) : IsDown h' d := by
 obtain ⟨c0, c1, c2, c3, c4, c5, c6, c7, hd⟩ := D
 exact ⟨c0, c1, c2, c3, c4, c5, c6, c7, x.blk hd hS⟩
theorem hurt_ok {A : Amb} {h : Heap} {q : Hp} {st : Db} {R : Value → Heap → Prop} (hd : h[q.d]? = some (.cells (dbC q st false) t_lsm_DB (0, 0))) (H : ∀ h', IsDown h' q.d → Mod (· = q.d) h h' → h'.size = h.size → R (.int .i64 30) h') : HCalls A P f_lsm_DB_hurt #[ptrV q.d, .int .i64 30] h R := by
 refine ok_lsm_DB_hurt ?_
 unfold F_lsm_DB_hurt
 refine Join.mk fun K hK => PIf.yes rfl (atI (Store.mk1 hd (by simp) fun h1 hb1 m1 hs1 => hK _ _ (H h1 ?_ m1 hs1)))
 exact ⟨_, _, _, _, _, _, _, _, by simpa using hb1⟩
section
variable {A : Amb} {g h : Heap} {q : Hp} {k : Nat → Nat} {st : Db} {m : Bx} {R : Value → Heap → Prop}
theorem DbH.evn (W : DbH g h q k st m) (E : Evn g) : Evn h := E.ext W.ext
def Grow (k k' : Nat → Nat) (n : Nat) : Prop := ∀ c, c < n → k' c = k c
theorem Grow.refl {k : Nat → Nat} {n : Nat} : Grow k k n := fun _ _ => rfl
theorem Grow.trans {k k1 k2 : Nat → Nat} {n n1 : Nat} (a : Grow k k1 n) (b : Grow k1 k2 n1) (h : n ≤ n1) : Grow k k2 n := fun c hc => (b c (by omega)).trans (a c hc)
theorem grow_ext {k : Nat → Nat} {n j : Nat} {S : Nat → Prop} : Grow k (extK k n S j) n := fun c hc => extK_old hc
/-- a note's bytes -/
theorem note_ok (W : DbH g h q k st m) (hn : st.next ≤ 99999999) (hf : st.frm ≤ 99999999) (hc : st.ts.length ≤ 60000) (hb : ∀ p ∈ st.ts, p.1 ≤ 99999999) (H : ∀ h', Ext h h' → R (.string (strL (noteL ⟨st.next, st.frm, st.ts.map (·.1)⟩))) h') : HCalls A P f_lsm_DB_note #[ptrV q.d] h R := by
 refine ok_lsm_DB_note ?_
 unfold F_lsm_DB_note
 refine atI (LoadI.mk (hget_lit1 W.cell rfl) ?_)
 rw [wrap_u64n (by omega)]
 refine vPut_ok (by omega) fun h1 x1 => ⟨_, rfl, ?_⟩
 have c1 := ext_cells x1 W.cell
 refine atI (LoadI.mk (hget_lit1 c1 rfl) ⟨hget_lit1 W.cell rfl, ?_⟩)
 rw [wrap_u64n (by omega)]
 refine vPut_ok (by omega) fun h2 x2 => ⟨_, rfl, ?_⟩
 have c2 := ext_cells x2 c1
 have l1 := putV_len10 (n := st.next) (by omega)
 have l2 := putV_len10 (n := st.frm) (by omega)
 have hnl : q.np.len = st.ts.length := by rw [W.names.len]; simp
 refine ⟨by rw [strL_size, strL_size, max_i64]; omega, ?_⟩
 refine atI (LoadL.mk (s := q.np) (hget_lit1 c2 rfl) ⟨hget_lit1 c1 rfl, hget_lit1 W.cell rfl, ?_⟩)
 rw [hnl, wrap_u64n (by omega), strL_app]
 refine vPut_ok (by omega) fun h3 x3 => ⟨_, rfl, ?_⟩
 have c3 := ext_cells x3 c2
 have l3 := putV_len10 (n := st.ts.length) (by omega)
 refine ⟨by rw [strL_size, strL_size, List.length_append, max_i64]; omega, ?_⟩
 refine atI (LoadL.mk (s := q.np) (hget_lit1 c3 rfl) ?_)
 rw [strL_app]
 have x03 := (x1.trans x2).trans x3
 have v3 := (W.names.ext x03).view
 have hle : ∀ i, ((st.ts.map (·.1)).take i).flatMap putV = ((st.ts.map (·.1)).take i).flatMap putV := fun _ => rfl
 refine Loop.rule (fun mm x hh => ∃ i : Nat, x = (strL (putV st.next ++ putV st.frm ++ putV st.ts.length ++ ((st.ts.map (·.1)).take i).flatMap putV), (i : Int), ()) ∧ mm = st.ts.length - i ∧ i ≤ st.ts.length ∧ Ext h3 hh) ?_ ⟨0, by simp, rfl, by omega, Mod.refl⟩
 rintro K mm _ hh ⟨i, rfl, rfl, hi, xx⟩ hK
 dsimp only
 refine PIf.intro (fun hq => ?_) (fun hq => ?_)
 ·have hil : i < st.ts.length := by rw [← hnl]; simpa using hq
  have hget : st.ts[i]? = some st.ts[i] := List.getElem?_eq_getElem hil
  have hbi := hb st.ts[i] (List.getElem_mem hil)
  refine (v3.ext xx).idx (i := i) (x := (st.ts[i].1 : Int)) (by rw [nmS, List.getElem?_map, hget]; rfl) fun a _ c => LoadI.mk c.int ?_
  rw [wrap_u64n (by omega)]
  refine vPut_ok (by omega) fun h5 x5 => ⟨_, rfl, ?_⟩
  have l5 := putV_len10 (n := st.ts[i].1) (by omega)
  have l6 := names_len (l := (st.ts.map (·.1)).take i) fun n hn => by
   obtain ⟨p, hp, rfl⟩ := List.mem_map.1 (List.mem_of_mem_take hn)
   exact hb p hp
  have l7 : ((st.ts.map (·.1)).take i).length ≤ 60000 := by simp; omega
  refine ⟨by rw [strL_size, strL_size, max_i64]; simp only [List.length_append]; omega, ?_⟩
  rw [strL_app, wrap_succ (by omega)]
  refine hK (st.ts.length - (i + 1)) _ _ (by omega) ⟨i + 1, ?_, rfl, hil, xx.trans x5⟩
  rw [List.take_add_one, List.getElem?_map, hget]
  simp
 ·have hil : i = st.ts.length := by rw [hnl] at hq; simp at hq; omega
  subst hil
  have := H hh (x03.trans xx)
  rw [List.take_of_length_le (by simp)]
  simpa [noteL] using this
/-- a table's file is laid -/
theorem lay_ok {n : Nat} {s : Sl} {l : List Pr} (E : Evn g) (W : DbH g h q k st m) (hd : m.down = false) (T : TabOk l) (hv : View PairE h s l) (hs : ∀ c, s.blk = some c → c < h.size) (hn : n ≤ 99999999) (hf : ff m (tfN n) = none) (hw : wtF m.files + (tabL l).length + 1 ≤ 8796093022208)
  (H0 : m.fuel ≠ -1 → ∀ h' S' m', IsBox h' q.b S' m' → m'.down = true → Mod q.Sb h h' → (∀ c, S' c → q.Sb c ∨ h.size ≤ c) → (∀ x, x ≠ tfN n → ff m' x = ff m x) → wtF m'.files ≤ wtF m.files + (tabL l).length + 1 → R (.tuple #[.pointer none, .int .i64 30]) h')
  (H1 : ∀ h' S' k' m' t lo hi, DbH g h' { q with Sb := S' } k' st m' → Stay m m' → (∀ x, ff m' x = if x = tfN n then some (strL (tabL l), bs0) else ff m x) → wtF m'.files ≤ wtF m.files + (tabL l).length + 1 → TabAt h' t l (fltL l) lo hi → h.size ≤ lo → hi ≤ h'.size → (∀ c, lo ≤ c → k' c = 0) →
   Mod q.Sb h h' → Grow k k' h.size → R (.tuple #[ptrV t, .int .i64 0]) h') : HCalls A P f_lsm_DB_lay #[ptrV q.d, .int .i64 (n : Int), .slice s.p s.len s.cap] h R := by
 refine ok_lsm_DB_lay ?_
 unfold F_lsm_DB_lay
 refine Build_ok T hv hs fun h1 x1 => ⟨_, _, rfl, PIf.no rfl ?_⟩
 have W1 := W.on x1
 refine atI (LoadP.mk (hget_lit W1.cell rfl) ?_)
 refine lfile_ok (W1.evn E) (by omega) fun h2 x2 => ⟨_, rfl, ⟨hget_lit (W1.on x2).cell rfl, ?_⟩⟩
 have W2 := W1.on x2
 have x02 := x1.trans x2
 have sz2 := x02.size
 refine bAppend_ok W2.box (by rw [strL_size]; exact hw) fun h3 S3 B3 m3 s3 => ⟨_, rfl, ?_⟩
 have wt3 := wt_append W.box.good (tfN n) (strL (tabL l))
 rw [strL_size] at wt3
 have mod3 : Mod q.Sb h h3 := (Ext.mod x02).trans m3
 have sub3 : ∀ c, S3 c → q.Sb c ∨ h.size ≤ c := fun c hc => (s3 c hc).imp id fun h => by omega
 rcases append_cases (k := tfN n) (d := strL (tabL l)) hd (tf_good hn) with ⟨hf0, e3⟩ | ⟨e3, st3, f3⟩
 ·rw [e3] at B3 ⊢
  refine PIf.yes rfl ?_
  exact H0 (by rw [hf0]; decide) h3 S3 _ B3 rfl mod3 sub3 (fun x _ => rfl) (by rw [wt_off, Nat.add_assoc]; exact Nat.le_add_right _ _)
 rw [e3]
 refine PIf.no rfl ?_
 have W3 := W2.boxed (j := 2) (st' := st) B3 (m3.weak fun c _ hc => .inl hc) s3 rfl rfl rfl rfl (.inl ⟨by decide, rfl, rfl⟩) (.inl ⟨by decide, rfl⟩)
 generalize (appendB m (tfN n) (strL (tabL l))).2 = m3' at *
 have g3 : Grow k (extK k h2.size S3 2) h2.size := grow_ext
 refine atI (LoadP.mk (hget_lit W3.cell rfl) ?_)
 refine lfile_ok (W3.evn E) (by omega) fun h4 x4 => ⟨_, rfl, ⟨hget_lit (W3.on x4).cell rfl, ?_⟩⟩
 have W4 := W3.on x4
 rw [hf] at f3
 have f3t : ff m3' (tfN n) = some (bs0, bs0 ++ strL (tabL l)) := by rw [f3, if_pos rfl]; rfl
 refine bSync_ok W4.box fun h5 B5 m5 => ⟨_, rfl, ?_⟩
 have wt5 := wt_sync W3.box.good (tfN n)
 have mod5 : Mod q.Sb h h5 := by
  refine mod3.then ((Ext.mod x4).trans m5 |>.weak fun c _ hc => ?_)
  exact (sub3 c hc)
 rcases sync_cases st3.up f3t with ⟨hf0, e5⟩ | ⟨e5, st5, f5⟩
 ·rw [e5] at B5 ⊢
  refine PIf.yes rfl ?_
  exact H0 (fun hh => by have := st3.calm hh; rw [hf0] at this; cases this) h5 S3 _ B5 rfl mod5 sub3 (fun x hx => by
   rw [ff_off, f3, if_neg hx]) wt3
 rw [e5]
 refine PIf.no rfl ?_
 have W5 := W4.boxed (j := 2) (st' := st) B5 (m5.weak fun c _ hc => .inl hc) (fun c hc => .inl hc) rfl rfl rfl rfl (.inl ⟨by decide, rfl, rfl⟩) (.inl ⟨by decide, rfl⟩)
 generalize (syncB m3' (tfN n)).2 = m5' at *
 refine atI (LoadP.mk (hget_lit W5.cell rfl) ?_)
 refine lfile_ok (W5.evn E) (by omega) fun h6 x6 => ⟨_, rfl, ⟨hget_lit (W5.on x6).cell rfl, ?_⟩⟩
 have W6 := W5.on x6
 refine bRead_ok W6.box ⟨_, _, rfl, ?_⟩
 have f5t : ff m5' (tfN n) = some (strL (tabL l), bs0) := by rw [f5, if_pos rfl, nil_app, nil_app]
 rw [ff_read st5.up, f5t]
 dsimp only
 rw [app_nil]
 refine PIf.no rfl ?_
 refine TOpen_ok T.tabS fun h7 t x7 T7 => ⟨_, _, rfl, ?_⟩
 have sz4 := x4.size
 have sz3 := m3.size
 have sz5 := m5.size
 have sz6 := x6.size
 have k5 : ∀ c, h6.size ≤ c → extK (extK k h2.size S3 2) h4.size S3 2 c = 0 := fun c hc => by
  have : ¬ S3 c := fun hs => by have := B5.lt hs; omega
  exact extK_none (by omega) this
 refine H1 h7 S3 _ m5' t h6.size h7.size (W6.on x7) (st3.trans st5) (fun x => ?_) (Nat.le_trans wt5 wt3) T7 (by omega) (Nat.le_refl _) (fun c hc => k5 c hc) ?_ ?_
 ·rw [f5]
  by_cases hx : x = tfN n
  ·rw [if_pos hx, if_pos hx, nil_app, nil_app]
  ·rw [if_neg hx, if_neg hx, f3, if_neg hx]
 ·exact (mod5.trans (Ext.mod x6)).trans (Ext.mod x7)
 ·exact fun c hc => by
   rw [extK_old (by omega), extK_old (by omega)]
end
end Go.Lf.G

/-
 Contract: how it is now is told (chapter 9): a note is written, older ones go.
-/
set_option maxRecDepth 100000
set_option linter.unusedVariables false
set_option linter.unusedSimpArgs false
namespace Go.Lf.G
open Go
section
variable {A : Amb} {g h : Heap} {q : Hp} {k : Nat → Nat} {st : Db} {m : Bx} {R : Value → Heap → Prop}
theorem DbH.evnB (W : DbH g h q k st m) (E : Evn g) {h' : Heap} (x : Mod (fun c => q.Sb c ∨ c = q.lg ∨ c = q.nt) h h') : Evn h' :=
 E.ext (W.rest (C := fun c => c = 2 ∨ c = 3 ∨ c = 4) (x.weak fun c _ hc => by
  rcases hc with hc | rfl | rfl
  ·exact .inl (W.kb c hc)
  ·exact .inr (.inl W.kl)
  ·exact .inr (.inr W.kn)) (by decide)).ext
def ntS (st : Db) : Nt := ⟨st.next, st.frm, st.ts.map (·.1)⟩
theorem told_ok {D : Disk} {T : Nat → List Pr} (E : Evn g) (W : DbH g h q k st m) (hd : m.down = false) (hD : DiskOk (ff m) D) (hx : NtOk (ntS st)) (hT : ∀ n ∈ (ntS st).names, ff m (tfN n) = some (strL (tabL (T n)), bs0) ∧ TabOk (T n)) (hs : 1 ≤ st.nseg ∧ st.nseg + 2 ≤ 99999999)
  (hout : ∀ n, st.nseg ≤ n → n ≤ 99999999 → ff m (fnB nn n) = none) (hw : wtF m.files + 1000000 ≤ 8000000000000)
  (H0 : m.fuel ≠ -1 → ∀ h' S' m', IsBox h' q.b S' m' → m'.down = true → Mod (fun c => q.Sb c ∨ c = q.nt) h h' → (∀ c, S' c → q.Sb c ∨ h.size ≤ c) → (∀ G, CrashTo (ff m') G → ∃ D', DiskOk G D' ∧ Nxt D st.nseg (ntS st) T D') → (∀ y, (∀ n, y ≠ fnB nn n) → ff m' y = ff m y) → wtF m'.files ≤ wtF m.files + 700000 → R (.int .i64 30) h')
  (H1 : ∀ h' S' k' m' D', DbH g h' { q with Sb := S' } k' { st with nseg := st.nseg + 1 } m' → Stay m m' → DiskOk (ff m') D' → lastN D' = ntS st → D'.T = T → D'.L = D.L → D'.ltop = D.ltop → D'.ntop ≤ max D.ntop (st.nseg + 1) → (∀ y, (∀ n, y ≠ fnB nn n) → ff m' y = ff m y) →
   (∀ n, st.nseg + 1 ≤ n → n ≤ 99999999 → ff m' (fnB nn n) = none) → wtF m'.files ≤ wtF m.files + 700000 → Mod (fun c => q.Sb c ∨ c = q.nt) h h' → Grow k k' h.size → R (.int .i64 0) h') : HCalls A P f_lsm_DB_told #[ptrV q.d] h R := by
 have hbel : ∀ p ∈ st.ts, p.1 ≤ 99999999 := fun p hp => by
  have h1 := hx.below p.1 (List.mem_map.2 ⟨p, hp, rfl⟩)
  have h2 := hx.next
  simp only [ntS] at h1 h2; omega
 have hcnt : st.ts.length ≤ 60000 := by have := hx.cnt; simpa [ntS] using this
 have hnl := note_len hx
 have hnl2 : (ntS st).names.length = st.ts.length := by simp [ntS]
 rw [hnl2] at hnl
 have hnl3 : (noteL (ntS st)).length ≤ 1048576 := by omega
 refine ok_lsm_DB_told ?_
 unfold F_lsm_DB_told
 refine atI (LoadP.mk (hget_lit1 W.cell rfl) ?_)
 refine note_ok W hx.next hx.frm.2 hcnt hbel fun h1 x1 => ⟨_, rfl, ⟨hget_lit1 (W.on x1).cell rfl, ?_⟩⟩
 have W1 := W.on x1
 have sz1 := x1.size
 have er : (strL (noteL ⟨st.next, st.frm, st.ts.map (·.1)⟩)).size = (noteL (ntS st)).length := by rw [strL_size]; rfl
 refine lAppend_ok (W1.evn E) W1.nts W1.box W1.nSn (fun h' x => W1.evnB E (x.weak fun c _ hc => .inl hc)) (by decide) (by omega) (by rw [er]; omega) (by omega) fun h2 S2 B2 L2 m2 s2 => ⟨_, rfl, ?_⟩
 rw [show bl (strL (noteL ⟨st.next, st.frm, st.ts.map (·.1)⟩)) = noteL (ntS st) from bl_strL _] at B2 L2 ⊢
 have wt2 := wt_append W.box.good (fnB nn st.nseg) (strL (wrapL (noteL (ntS st))))
 have wl := (wrapL_len hnl3).2
 rw [strL_size] at wt2
 have mod2 : Mod (fun c => q.Sb c ∨ c = q.nt) h h2 := (Ext.mod x1).trans m2
 have sub2 : ∀ c, S2 c → q.Sb c ∨ h.size ≤ c := fun c hc => (s2 c hc).imp id fun h => by omega
 rcases append_cases (k := fnB nn st.nseg) (d := strL (wrapL (noteL (ntS st)))) hd (fn_good (by decide) (by omega)) with ⟨hf0, e2⟩ | ⟨e2, st2, f2⟩
 ·rw [e2] at B2 ⊢
  refine PIf.yes rfl ?_
  exact H0 (by rw [hf0]; decide) h2 S2 _ B2 rfl mod2 sub2 (fun G c => ⟨D, hD.crash c, nxt_self⟩) (fun y _ => rfl) (by rw [wt_off]; omega)
 rw [e2] at L2 ⊢
 refine PIf.no rfl ?_
 rw [decide_eq_true rfl, Bool.or_true] at L2
 generalize (appendB m (fnB nn st.nseg) (strL (wrapL (noteL (ntS st))))).2 = ma at *
 rw [hout st.nseg (Nat.le_refl _) (by omega)] at f2
 have f2' : ∀ y, ff ma y = if y = fnB nn st.nseg then some (bs0, strL (wrapL (noteL (ntS st)))) else ff m y := fun y => by
  rw [f2]; split <;> simp only [Option.getD_none, nil_app]
 have nS2 : ¬ S2 q.nt := fun hc => by
  rcases s2 _ hc with h | h
  ·exact W.nSn h
  ·exact h.2 rfl
 have cd2 : h2[q.d]? = some (.cells (dbC q st false) t_lsm_DB (0, 0)) := mod2.blk W.cell (by rintro (h | h); exact W.nSd h; exact W.dn h)
 refine atI (LoadP.mk (hget_lit1 cd2 rfl) ?_)
 have fk : ff ma (fnB nn st.nseg) = some (bs0, strL (wrapL (noteL (ntS st)))) := by rw [f2', if_pos rfl]
 have ev2 : Evn h2 := W.evnB E (mod2.weak fun c _ hc => hc.imp id .inr)
 refine lRotate_ok ev2 L2 B2 nS2 (by decide) (by omega) (fun hne h3 B3 L3 m3 => ⟨_, _, rfl, ?_⟩) fun heq h3 B3 L3 m3 => ⟨_, _, rfl, ?_⟩
 · -- the box gives out at the sync
  have hne' : (syncB ma (fnB nn st.nseg)).1 ≠ 0 := hne
  rcases sync_cases st2.up fk with ⟨hf0, e3⟩ | ⟨e3, _, _⟩
  ·have e3' : syncL ma (fnB nn st.nseg) true = (30, offB ma) := e3
   rw [e3'] at B3 ⊢
   refine PIf.yes rfl ?_
   have mod3 : Mod (fun c => q.Sb c ∨ c = q.nt) h h3 := mod2.then (m3.weak fun c _ hc => (sub2 c hc).imp .inl id)
   exact H0 (fun hh => by have := st2.calm hh; rw [hf0] at this; cases this) h3 S2 _ B3 rfl mod3 sub2 (fun G c => note_torn hD ⟨hs.1, by omega⟩ hx hnl3 hout hT (F1 := ff (offB ma)) f2' c) (fun y hy => by
    rw [ff_off, f2', if_neg (hy _)]) (by rw [wt_off]; omega)
  ·exact absurd e3 hne'
 ·rcases sync_cases st2.up fk with ⟨hf0, e3⟩ | ⟨e3, st3, f3⟩
  ·have heq' : (syncB ma (fnB nn st.nseg)).1 = 0 := heq
   rw [e3] at heq'; cases heq'
  have B3 : IsBox h3 q.b S2 (syncB ma (fnB nn st.nseg)).2 := B3
  have wt3 := wt_sync B2.good (fnB nn st.nseg)
  generalize (syncB ma (fnB nn st.nseg)).2 = mb at *
  refine PIf.no rfl ?_
  have f3' : ∀ y, ff mb y = if y = fnB nn st.nseg then some (strL (wrapL (noteL (ntS st))), bs0) else ff m y := fun y => by
   rw [f3]
   by_cases hy : y = fnB nn st.nseg
   ·rw [if_pos hy, if_pos hy]; simp only [nil_app]
   ·rw [if_neg hy, if_neg hy, f2', if_neg hy]
  obtain ⟨hD3, hN⟩ := note_firm hD ⟨hs.1, by omega⟩ hx hnl3 hout hT f3'
  have mod3 : Mod (fun c => q.Sb c ∨ c = q.nt) h h3 := mod2.then (m3.weak fun c _ hc => by
   rcases hc with hc | rfl
   ·exact (sub2 c hc).imp .inl id
   ·exact .inl (.inr rfl))
  have cd3 : h3[q.d]? = some (.cells (dbC q st false) t_lsm_DB (0, 0)) := mod3.blk W.cell (by rintro (h | h); exact W.nSd h; exact W.dn h)
  refine atI (LoadP.mk (hget_lit1 cd3 rfl) ?_)
  have ew : IntKind.wrap .i64 (((st.nseg : Nat) : Int) - (1 : Int)) = (st.nseg : Int) - 1 := wrap_i64 (by omega) (by omega)
  rw [ew]
  have ev3 : Evn h3 := W.evnB E (mod3.weak fun c _ hc => hc.imp id .inr)
  have ev4 : ∀ h', Mod S2 h3 h' → Evn h' := fun h' x => W.evnB E ((mod3.then (x.weak fun c _ hc => (sub2 c hc).imp .inl id)).weak fun c _ hc => hc.imp id .inr)
  have fz : ff mb (fnB nn st.nseg) ≠ none := by rw [f3', if_pos rfl]; simp
  refine lDropF_ok ev3 ev4 L3 B3 st3.up nS2 (by decide) (by omega) (fun h => absurd h (by omega)) (fun hfu h4 S4 m4 B4 dn4 md4 s4 w4 f4 => ⟨_, rfl, ?_⟩) fun _ h4 S4 m4 B4 st4 md4 s4 w4 f4 f4' => ⟨_, rfl, ?_⟩
  ·have mod4 : Mod (fun c => q.Sb c ∨ c = q.nt) h h4 := mod3.then (md4.weak fun c _ hc => (sub2 c hc).imp .inl id)
   obtain ⟨D', d1, d2, d3, d4, d5, d6⟩ := nxt_drop (G := ff m4) hD3 hN fz fun y => by
    rcases f4 y with h1 | ⟨h1, n, n1, n9, nu, h2⟩
    ·exact .inl h1
    ·exact .inr ⟨h1, n, by omega, n9, h2⟩
   refine H0 (fun hh => hfu (st3.calm (st2.calm hh))) h4 S4 m4 B4 dn4 mod4 (fun c hc => sub2 c (s4 c hc)) (fun G c => ⟨D', d1.crash c, d4, d5, by omega, .inr ⟨d2, d3⟩⟩) (fun y hy => ?_) (by omega)
   rcases f4 y with h1 | ⟨_, n, _, _, _, h2⟩
   ·rw [h1, f3', if_neg (hy _)]
   ·exact absurd h2 (hy n)
  ·have mod4 : Mod (fun c => q.Sb c ∨ c = q.nt) h h4 := mod3.then (md4.weak fun c _ hc => (sub2 c hc).imp .inl id)
   obtain ⟨D', d1, d2, d3, d4, d5, d6⟩ := nxt_drop (G := ff m4) hD3 hN fz fun y => by
    by_cases hy : ∃ n : Nat, 1 ≤ n ∧ n ≤ 99999999 ∧ (n : Int) ≤ (st.nseg : Int) - 1 ∧ y = fnB nn n
    ·obtain ⟨n, n1, n9, nu, rfl⟩ := hy
     exact .inr ⟨f4 n n1 n9 nu, n, by omega, n9, rfl⟩
    ·exact .inl (f4' y fun n n1 n9 nu e => hy ⟨n, n1, n9, nu, e⟩)
   have hfr : ∀ y, (∀ n, y ≠ fnB nn n) → ff m4 y = ff m y := fun y hy => by
    rw [f4' y fun n _ _ _ => hy n, f3', if_neg (hy _)]
   have L4 : IsLog h4 q.nt q.b nn (st.nseg + 1) false := L3.mod md4 nS2
   have W4 := W.boxed (j := 4) (st' := { st with nseg := st.nseg + 1 }) B4 (mod4.weak fun c _ hc => hc.imp id fun h => .inr ⟨rfl, h⟩) (fun c hc => sub2 c (s4 c hc)) rfl rfl rfl rfl (.inl ⟨by decide, rfl, rfl⟩) (.inr L4)
   refine H1 h4 S4 _ m4 D' W4 ((st2.trans st3).trans st4) d1 d2 d3 d4 d5 (by omega) hfr (fun n n1 n9 => ?_) (by omega) mod4 grow_ext
   rw [f4' (fnB nn n) fun k _ _ ku e => by have := fnB_inj e; omega, f3', if_neg fun e => by have := fnB_inj e; omega]
   exact hout n (by omega) n9
end
end Go.Lf.G

/-
 Contracts: slices.Values, merge.Some, pairs compared by the document (from the statements of chapters 5 and 8).
-/
set_option maxRecDepth 100000
set_option linter.unusedVariables false
set_option linter.unusedSimpArgs false
namespace Go.Lf.G.M
open Go Go.Lf Go.Lf.G
end Go.Lf.G.M

/-
 Contracts: a store is read: Get, Scan, Shape (chapter 9).
-/
set_option maxRecDepth 100000
set_option linter.unusedVariables false
set_option linter.unusedSimpArgs false
namespace Go.Lf.G
open Go
open M (Sorted findK putL putsL refAllL findLs GoodL wrongP OkL liveL atK someL lowT)
/-! ### plain law: what is scanned -/
/-! ### sequences that are laid one behind the other -/
def SeqI (A : Amb) (h : Heap) (s : Sl) (ls : List (List Pr)) : Prop :=
 ∃ vs, Own ValE t_iter_Seq_wherry_api_Pair h s vs ∧ vs.length = ls.length ∧ ∀ (i : Nat) (v : OneV) (l : List Pr), vs[i]? = some v → ls[i]? = some l → (∃ S, IterV A P v.v S h l ∧ ∀ c, S c → s.blk ≠ some c) ∧ l.length ≤ 1099511627776
theorem IterV.at {A : Amb} {fv : Value} {S T : Nat → Prop} {h h' : Heap} {l : List Pr} (it : IterV A P fv S h l) (x : Mod T h h') (hT : ∀ c, S c → ¬ T c) : IterV A P fv S h' l :=
 IterV.weak it (fun _ h => h) (fun c hc => by have := it.1 c hc; have := x.size; omega) fun c hc => x.get c (it.1 c hc) (hT c hc)
theorem SeqI.ext {A : Amb} {h h' : Heap} {s : Sl} {ls : List (List Pr)} (q : SeqI A h s ls) (x : Ext h h') : SeqI A h' s ls := by
 obtain ⟨vs, o, hl, hi⟩ := q
 refine ⟨vs, o.ext x, hl, fun i v l h1 h2 => ?_⟩
 obtain ⟨⟨S, it, hS⟩, hn⟩ := hi i v l h1 h2
 exact ⟨⟨S, IterV.at it x (fun _ _ h => h), hS⟩, hn⟩
theorem SeqI.nil {A : Amb} {h : Heap} : SeqI A h ⟨none, 0, 0⟩ [] := ⟨[], Own.nil, rfl, fun i v l h => by simp at h⟩
theorem SeqI.seqs {A : Amb} {h : Heap} {s : Sl} {ls : List (List Pr)} (q : SeqI A h s ls) : M.Seqs A (fun _ => False) h s ls := by
 obtain ⟨vs, o, hl, hi⟩ := q
 refine ⟨vs, o.view, fun c hc => ⟨o.lt hc, fun h => h⟩, hl, fun i v l h1 h2 => .inr ?_⟩
 obtain ⟨⟨S, it, hS⟩, hn⟩ := hi i v l h1 h2
 exact ⟨it.weak (fun c hc => ⟨it.1 c hc, fun h => h⟩) (fun c hc => hc.1) (fun _ _ => rfl), hn⟩
theorem SeqI.one {A : Amb} {h h1 : Heap} {fv : Value} {l : List Pr} {S : Nat → Prop} {b : Nat} (it : IterV A P fv S h l) (hl : l.length ≤ 1099511627776) (hb : h1[b]? = some (.cells #[fv] t_iter_Seq_wherry_api_Pair (0, 0))) (x : Ext h h1) (hn : h.size ≤ b) : SeqI A h1 ⟨some ⟨b, 0, none⟩, 1, 1⟩ [l] := by
 refine ⟨[⟨fv, it.one.1⟩], Own.lit (l := [(⟨fv, it.one.1⟩ : OneV)]) hb rfl (by simp [maxLen]), rfl, fun i v l' h1 h2 => ?_⟩
 have hi : i = 0 := by
  have := (List.getElem?_eq_some_iff.1 h1).1
  simpa using this
 subst hi
 simp only [List.getElem?_cons_zero, Option.some.injEq] at h1 h2
 subst h1 h2
 exact ⟨⟨S, IterV.at it x (fun _ _ h => h), fun c hc e => by have := it.1 c hc; simp [Sl.blk] at e; omega⟩, hl⟩
theorem SeqI.add {A : Amb} {h : Heap} {s : Sl} {ls : List (List Pr)} {fv : Value} {l : List Pr} {S : Nat → Prop} {K : Sl → Heap → Prop} {ty : TypeId} (q : SeqI A h s ls) (it : IterV A P fv S h l) (hS : ∀ c, S c → s.blk ≠ some c) (hl : l.length ≤ 1099511627776) (hls : ls.length ≤ 1000000)
  (H : ∀ s' h', SeqI A h' s' (ls ++ [l]) → Mod (fun b => s.blk = some b) h h' → (∀ b, s'.blk = some b → s.blk = some b ∨ h.size ≤ b) → K s' h') :
  New h (.cells #[fv] t_iter_Seq_wherry_api_Pair) fun b h1 => RunK A P (Builtin.append_ #[t_sl_iter_Seq_wherry_api_Pair, t_sl_iter_Seq_wherry_api_Pair] ty #[.slice s.p s.len s.cap, .slice (some ⟨b, 0, none⟩) 1 1]) h1 fun v h' => ∃ s' : Sl, v = .slice s'.p s'.len s'.cap ∧ K s' h' := by
 obtain ⟨vs, o, hvl, hi⟩ := q
 refine New.append1 (E := ValE) (x := ⟨fv, it.one.1⟩) (s := s) (l := vs) rfl M.app_seq o (by omega) (by simp [maxLen]; omega) fun s' h' o' m' b' _ => ?_
 have hfresh : ∀ {T : Nat → Prop} {w : Value} {l' : List Pr}, IterV A P w T h l' → (∀ c, T c → s.blk ≠ some c) → ∃ S, IterV A P w S h' l' ∧ ∀ c, S c → s'.blk ≠ some c := fun {T} w l' it hT => ⟨T, IterV.at it m' (fun c hc => hT c hc), fun c hc e => by
  rcases b' c e with h1 | h1
  ·exact hT c hc h1
  ·have := it.1 c hc; omega⟩
 refine H s' h' ⟨vs ++ [⟨fv, it.one.1⟩], o', by simp [hvl], fun i v l' h1 h2 => ?_⟩ m' b'
 by_cases hlt : i < vs.length
 ·rw [List.getElem?_append_left hlt] at h1
  rw [List.getElem?_append_left (by omega)] at h2
  obtain ⟨⟨T, it', hT⟩, hn⟩ := hi i v l' h1 h2
  exact ⟨hfresh it' hT, hn⟩
 ·have hi : i = vs.length := by
   have := (List.getElem?_eq_some_iff.1 h1).1
   simp at this; omega
  subst hi
  rw [List.getElem?_append_right (Nat.le_refl _)] at h1
  rw [List.getElem?_append_right (by omega)] at h2
  simp at h1
  rw [hvl] at h2
  simp at h2
  subst h1 h2
  exact ⟨hfresh it hS, hl⟩
section
variable {A : Amb} {g h : Heap} {q : Hp} {k : Nat → Nat} {st : Db} {m : Bx} {R : Value → Heap → Prop}
def tabsS (st : Db) : List (List Pr) := st.ts.map (·.2)
def mapS (st : Db) : List Pr := storeL st.fr (tabsS st)
theorem DbH.tabok (W : DbH g h q k st m) : ∀ p ∈ st.ts, TabOk p.2 := fun p hp => by
 obtain ⟨i, hi, rfl⟩ := List.getElem_of_mem hp
 have hip : i < q.ps.length := by rw [W.tlen]; exact hi
 obtain ⟨lo, hi', _, _, _, t⟩ := W.tab i q.ps[i] st.ts[i] (List.getElem?_eq_getElem hip) (List.getElem?_eq_getElem hi)
 exact t
theorem DbH.okL (W : DbH g h q k st m) : OkL (st.fr :: tabsS st) := by
 refine ⟨fun l hl => ?_, fun l hl => ?_⟩ <;> rcases List.mem_cons.1 hl with rfl | hl
 ·exact W.fresh.sorted
 ·obtain ⟨p, hp, rfl⟩ := List.mem_map.1 hl
  exact (W.tabok p hp).good.1
 ·exact W.fresh.good
 ·obtain ⟨p, hp, rfl⟩ := List.mem_map.1 hl
  exact (W.tabok p hp).good.2
theorem notdown (W : DbH g h q k st m) {K : Bool × Unit → Heap → Prop} (H : K (false, ()) h) : PIf ((some (⟨q.d, 0, none⟩ : Addr)).isNone) (K (true, ()) h) (At (some (⟨q.d, 0, none⟩ : Addr)) fun a => LoadB h (a.add 8) fun t => K (t, ()) h) :=
 PIf.no rfl (atI (LoadB.mk (hget_lit1 W.cell rfl) H))
theorem getL_find (key : ByteArray) : ∀ {l : List Pr}, Sorted l → M.getL key l = getT key l
 | [], _ => rfl
 | x :: l, s => by
  have s' := List.pairwise_cons.1 s
  have ih := getL_find key s'.2
  unfold M.getL getT at ih ⊢
  rw [atK_cons, M.findK_cons]
  by_cases h : sLt x.key key = true
  ·rw [if_pos h, if_neg (M.lt_ne h), List.getElem?_cons_succ]; exact ih
  ·rw [if_neg h, List.getElem?_cons_zero]
   by_cases hk : x.key = key
   ·simp [hk]
   ·have hn : findK key l = none := M.findK_none fun y hy e => h (by
     have := s'.1 y hy
     rwa [e] at this)
    simp [hk, hn]
def getM (m : List Pr) (key : ByteArray) : ByteArray × Bool := match findK key m with | some p => (p.val, true) | none => (⟨#[]⟩, false)
theorem Get_ok {key : ByteArray} (W : DbH g h q k st m) (hts : st.ts.length ≤ 100000) (hk : key.size ≤ 1099511627776)
  (H : ∀ h', Ext h h' → R (.tuple #[.string (getM (mapS st) key).1, .bool (getM (mapS st) key).2, .int .i64 0]) h') : HCalls A P f_lsm_DB_Get #[ptrV q.d, .string key] h R := by
 refine ok_lsm_DB_Get ?_
 unfold F_lsm_DB_Get
 refine Join.mk fun K hK => notdown W (hK _ _ (PIf.no rfl ?_))
 refine atI (LoadP.mk (hget_lit1 W.cell rfl) ?_)
 have hg : ∀ p, (findK key st.fr).or (findLs key (tabsS st)) = some p → getM (mapS st) key = (p.val, !p.gone) := fun p hp => by
  have e : findK key (mapS st) = alive (some p) := by unfold mapS; rw [store_find key W.okL, hp]
  unfold getM
  rw [e, alive_some]
  cases hgo : p.gone with
  | false => rfl
  | true =>
   have hw : wrongP p = 0 := by
    cases hf : findK key st.fr with
    | some x =>
     rw [hf] at hp
     simp only [Option.some_or, Option.some.injEq] at hp
     subst hp
     exact W.fresh.good x (M.findK_key hf).2
    | none =>
     rw [hf, Option.none_or] at hp
     unfold M.findLs at hp
     obtain ⟨l, hl, hx⟩ := List.exists_of_findSome?_eq_some hp
     exact W.okL.good l (List.mem_cons_of_mem _ hl) p (M.findK_key hx).2
   have hv := (ok_of hw).gone hgo
   show ((⟨#[]⟩ : ByteArray), false) = (p.val, !true)
   rw [empty_str hv]; rfl
 have hg0 : (findK key st.fr).or (findLs key (tabsS st)) = none → getM (mapS st) key = (⟨#[]⟩, false) := fun hp => by
  have e : findK key (mapS st) = alive none := by unfold mapS; rw [store_find key W.okL, hp]
  unfold getM
  rw [e]; rfl
 refine M.mGet_ok W.fresh fun h1 x1 => ⟨_, _, _, _, rfl, ?_⟩
 rw [getL_find key W.fresh.sorted]
 refine New.pair fun b h2 _ hb2 x2 s2 => ?_
 have x02 := x1.trans x2
 cases hf : findK key st.fr with
 | some p =>
  have e : getT key st.fr = (p, true) := by unfold getT; rw [hf]
  rw [e] at hb2 ⊢
  refine PIf.yes rfl (LoadS.mk (hget_lit1 hb2 rfl) (LoadB.mk (hget_lit1 hb2 rfl) ?_))
  have := H h2 x02
  rw [hg p (by rw [hf]; rfl)] at this
  exact this
 | none =>
  have e : getT key st.fr = (M.zeroP, false) := by unfold getT; rw [hf]
  rw [e] at hb2 ⊢
  refine PIf.no rfl ?_
  have W2 := W.on x02
  refine atI (LoadL.mk (s := q.tp) (hget_lit1 W2.cell rfl) ?_)
  have hpl := W.tlen
  have htl := W.tabs.len
  refine Loop.rule (fun mm x hh => ∃ i : Nat, x = ((i : Int), ()) ∧ mm = q.ps.length - i ∧ i ≤ q.ps.length ∧ Ext h hh ∧ findLs key ((tabsS st).take i) = none) ?_ ⟨0, rfl, rfl, by omega, x02, rfl⟩
  rintro K2 mm _ hh ⟨i, rfl, rfl, hi, xx, hno⟩ hK2
  dsimp only
  refine PIf.intro (fun hq => ?_) (fun hq => ?_)
  ·have hil : i < q.ps.length := by rw [← htl]; simpa using hq
   have his : i < st.ts.length := by omega
   have g1 : q.ps[i]? = some q.ps[i] := List.getElem?_eq_getElem hil
   have g2 : st.ts[i]? = some st.ts[i] := List.getElem?_eq_getElem his
   have g3 : (tabsS st)[i]? = some st.ts[i].2 := by unfold tabsS; rw [List.getElem?_map, g2]; rfl
   have Wh := W.on xx
   refine Wh.tabs.view.idx g1 fun a _ c => LoadP.mk (Cells.pt c) ?_
   obtain ⟨lo, hi', T1, t1, t2, t3⟩ := Wh.tab i _ _ g1 g2
   refine TGet_ok T1 t3.tabS hk fun h5 x5 => ⟨_, _, _, _, rfl, ?_⟩
   refine New.pair fun b6 h6 _ hb6 x6 s6 => ?_
   have x06 := (xx.trans x5).trans x6
   have htk : (tabsS st).take (i + 1) = (tabsS st).take i ++ [st.ts[i].2] := by rw [List.take_add_one, g3]; rfl
   have hall : findLs key (tabsS st) = (findK key st.ts[i].2).or (findLs key ((tabsS st).drop (i + 1))) := by
    conv => lhs; rw [← List.take_append_drop (i + 1) (tabsS st), htk]
    rw [M.findLs_append, M.findLs_append, hno, M.findLs_cons]
    have : findLs key ([] : List (List Pr)) = none := rfl
    rw [this, Option.or_none, Option.none_or]
   cases hf2 : findK key st.ts[i].2 with
   | some p =>
    have e : getT key st.ts[i].2 = (p, true) := by unfold getT; rw [hf2]
    rw [e] at hb6 ⊢
    refine PIf.yes rfl (LoadS.mk (hget_lit1 hb6 rfl) (LoadB.mk (hget_lit1 hb6 rfl) ?_))
    have := H h6 x06
    rw [hg p (by rw [hf, hall, hf2]; rfl)] at this
    exact this
   | none =>
    have e : getT key st.ts[i].2 = (M.zeroP, false) := by unfold getT; rw [hf2]
    rw [e] at hb6 ⊢
    refine PIf.no rfl ?_
    rw [wrap_succ (by omega)]
    refine hK2 (q.ps.length - (i + 1)) _ _ (by omega) ⟨i + 1, rfl, rfl, hil, x06, ?_⟩
    rw [htk, M.findLs_append, hno, M.findLs_cons, hf2]
    rfl
  ·have hil : i = q.ps.length := by
    have : ¬ i < q.tp.len := by simpa using hq
    omega
   subst hil
   rw [List.take_of_length_le (by simp [tabsS]; omega)] at hno
   have := H hh xx
   rw [hg0 (by rw [hf, hno]; rfl)] at this
   exact this
theorem Shape_ok (W : DbH g h q k st m) (H : R (.tuple #[.int .i64 (st.fr.length : Int), .int .i64 (st.ts.length : Int)]) h) : HCalls A P f_lsm_DB_Shape #[ptrV q.d] h R := by
 refine ok_lsm_DB_Shape ?_
 unfold F_lsm_DB_Shape
 refine PIf.no rfl (atI (LoadP.mk (hget_lit1 W.cell rfl) ?_))
 refine M.mLen_ok W.fresh ⟨_, _, rfl, atI (LoadL.mk (s := q.tp) (hget_lit1 W.cell rfl) ?_)⟩
 rw [W.tabs.len, W.tlen]
 exact H
/-! ### a store that is down, or none -/
end
end Go.Lf.G

/-
 A store over its files (chapter 9): plain law: what is kept in step, how much there may be, what a crash leaves.
-/
set_option maxRecDepth 100000
set_option linter.unusedVariables false
set_option linter.unusedSimpArgs false
namespace Go.Lf.G
open Go
open M (Sorted findK putL putsL refAllL findLs GoodL wrongP OkL liveL)
def costK (C : Nat) : Nat := 20000 * C + 10000000
/-- how much there may be -/
structure Bud where
 C : Nat
 W0 : Nat
 A : Nat
 hC : C ≤ 100000
 hA : A ≤ 60000
 hW : W0 + A * costK C ≤ 8000000000000
def Bud.K (B : Bud) : Nat := costK B.C
theorem Bud.wt (B : Bud) {a : Nat} (h : a ≤ B.A) : B.W0 + a * B.K ≤ 8000000000000 := by
 have h1 := B.hW
 have h2 : a * B.K ≤ B.A * B.K := Nat.mul_le_mul_right _ h
 have h3 : B.A * costK B.C = B.A * B.K := rfl
 rw [h3] at h1
 generalize a * B.K = x at *
 generalize B.A * B.K = y at *
 omega
theorem wraps_sum : ∀ rs : List (List UInt8), (∀ r ∈ rs, r.length ≤ 1048576) → (wraps rs).length ≤ (rs.map List.length).sum + rs.length * 14
 | [], _ => by simp
 | r :: rs, h => by
  have h2 := (wrapL_len (h r List.mem_cons_self)).2
  have h3 := wraps_sum rs fun x hx => h x (List.mem_cons_of_mem _ hx)
  rw [wraps_cons]
  simp only [List.length_append, List.map_cons, List.sum_cons, List.length_cons]
  omega
theorem pairs_sum : ∀ bs : List (List Pr), ((bs.map pairsL).map List.length).sum = (pairsL bs.flatten).length
 | [] => rfl
 | b :: bs => by
  simp only [List.map_cons, List.sum_cons, List.flatten_cons, pairs_sum bs]
  simp [pairsL]
theorem tab_arith {n w s k f p : Nat} (h2 : w ≤ s + k * 14) (h3 : s = p + f) (h5 : p ≤ n * 8276) (h6 : f ≤ 1048576) (h8 : k ≤ n + 2) : w ≤ 8400 * n + 1100000 := by omega
theorem tab_len {l : List Pr} (t : TabOk l) : (tabL l).length ≤ 8400 * l.length + 1100000 := by
 have h2 := wraps_sum (framesT l (fltL l)) (frames_small t.tabS)
 have h3 : ((framesT l (fltL l)).map List.length).sum = (pairsL l).length + (footT l (fltL l)).length := by
  have e := pairs_sum (blks l)
  rw [blks_flat] at e
  rw [← e]
  simp only [framesT, List.map_append, List.sum_append, List.map_cons, List.map_nil, List.sum_cons, List.sum_nil, Nat.add_zero]
 have h7 : (framesT l (fltL l)).length ≤ l.length + 2 := by
  have h7 : (framesT l (fltL l)).length = nblk l + 1 := by simp [framesT, blks_len]
  have h8 : nblk l ≤ l.length + 1 := by unfold nblk; omega
  omega
 exact tab_arith h2 h3 (pairs_most t.ok) (foot_len t.tabS) h7
def cntD (D : Disk) : Nat := ((lastN D).names.map fun n => (D.T n).length).sum + (batsD D).flatten.length
structure LiveD (F : Fls) (st : Db) (D : Disk) : Prop where
 ok : DiskOk F D
 names : (lastN D).names = st.ts.map (·.1)
 tabs : ∀ p ∈ st.ts, D.T p.1 = p.2
 frm : (lastN D).frm = st.frm
 next : (lastN D).next ≤ st.next
 below : ∀ p ∈ st.ts, p.1 < st.next
 fr : st.fr = freshD D
 lout : ∀ n, st.lseg ≤ n → n ≤ 99999999 → (st.lmade = true → n ≠ st.lseg) → F (fnB nl n) = none
 lcur : st.lmade = true → F (fnB nl st.lseg) = some (strL (wraps ((D.L st.lseg).map (batchL st.lseg))), bs0)
 nout : ∀ n, st.nseg ≤ n → n ≤ 99999999 → F (fnB nn n) = none
 lfrm : 1 ≤ st.frm ∧ st.frm ≤ st.lseg
 nseg : 1 ≤ st.nseg
 clean : ∀ n, F (tfN n) ≠ none → n ∈ st.ts.map (·.1)
structure Lims (st : Db) (D : Disk) (age c : Nat) : Prop where
 lseg : st.lseg ≤ 8 * age + 4
 nseg : st.nseg ≤ 8 * age + 4
 next : st.next ≤ 8 * age + 4
 cnt : st.ts.length ≤ age
 prs : cntD D ≤ c
 ltop : D.ltop ≤ 8 * age + 6
 ntop : D.ntop ≤ 8 * age + 6
structure RLim (F : Fls) (D : Disk) (age c : Nat) : Prop where
 ltop : D.ltop ≤ 8 * age + 8
 ntop : D.ntop ≤ 8 * age + 8
 next : (lastN D).next ≤ 8 * age + 8
 frm : (lastN D).frm ≤ 8 * age + 8
 cnt : (lastN D).names.length ≤ age
 prs : cntD D ≤ c
 tfs : ∀ n, F (tfN n) ≠ none → n < 8 * age + 8
/-- what files tell, once they are opened -/
def Rec (F : Fls) (age c : Nat) (mp : List Pr) : Prop := ∃ D, DiskOk F D ∧ RLim F D age c ∧ mapD D = mp
def RecS (F : Fls) (age c : Nat) (mp : List Pr) : Prop := ∀ G, CrashTo F G → Rec G age c mp
theorem Lims.mono {st : Db} {D : Disk} {age age' c c' : Nat} (l : Lims st D age c) (h : age ≤ age') (hc : c ≤ c') : Lims st D age' c' :=
 ⟨by have := l.lseg; omega, by have := l.nseg; omega, by have := l.next; omega, by have := l.cnt; omega, by have := l.prs; omega, by have := l.ltop; omega, by have := l.ntop; omega⟩
theorem RLim.mono {F : Fls} {D : Disk} {age age' c c' : Nat} (l : RLim F D age c) (h : age ≤ age') (hc : c ≤ c') : RLim F D age' c' :=
 ⟨by have := l.ltop; omega, by have := l.ntop; omega, by have := l.next; omega, by have := l.frm; omega, by have := l.cnt; omega, by have := l.prs; omega, fun n hn => by have := l.tfs n hn; omega⟩
theorem Rec.mono {F : Fls} {age age' c c' : Nat} {mp : List Pr} (r : Rec F age c mp) (h : age ≤ age') (hc : c ≤ c') : Rec F age' c' mp := by
 obtain ⟨D, h1, h2, h3⟩ := r
 exact ⟨D, h1, h2.mono h hc, h3⟩
theorem RecS.mono {F : Fls} {age age' c c' : Nat} {mp : List Pr} (r : RecS F age c mp) (h : age ≤ age') (hc : c ≤ c') : RecS F age' c' mp := fun G cr => (r G cr).mono h hc
theorem CrashTo.some {F G : Fls} (c : CrashTo F G) {x : ByteArray} (h : G x ≠ none) : F x ≠ none := fun hf => h (by
 have := c x; rw [hf] at this; exact this)
theorem LiveD.nmle {F : Fls} {st : Db} {D : Disk} (L : LiveD F st D) : (lastN D).names.length = st.ts.length := by rw [L.names]; simp
theorem LiveD.tabsS {F : Fls} {st : Db} {D : Disk} (L : LiveD F st D) : (lastN D).names.map D.T = G.tabsS st := by
 rw [L.names, List.map_map]
 exact List.map_congr_left fun p hp => L.tabs p hp
theorem LiveD.map {F : Fls} {st : Db} {D : Disk} (L : LiveD F st D) : mapD D = mapS st := by
 unfold mapD mapS storeL
 rw [L.tabsS, ← L.fr]
theorem LiveD.ntok {F : Fls} {st : Db} {D : Disk} (L : LiveD F st D) : NtOk (lastN D) := lastN_ok L.ok
theorem LiveD.nd {F : Fls} {st : Db} {D : Disk} (L : LiveD F st D) : (st.ts.map (·.1)).Nodup := by rw [← L.names]; exact L.ntok.nd
theorem LiveD.rlim {F F' : Fls} {st : Db} {D : Disk} {age c : Nat} (L : LiveD F st D) (l : Lims st D age c) (ht : ∀ n, F' (tfN n) ≠ none → n < 8 * age + 8) : RLim F' D age c := by
 have := L.next; have := l.next; have := L.lfrm; have := l.lseg
 exact ⟨by have := l.ltop; omega, by have := l.ntop; omega, by omega, by rw [L.frm]; omega, by rw [L.nmle]; exact l.cnt, l.prs, ht⟩
theorem LiveD.tlt {F : Fls} {st : Db} {D : Disk} {age c : Nat} (L : LiveD F st D) (l : Lims st D age c) {n : Nat} (hn : F (tfN n) ≠ none) : n < st.next := by
 obtain ⟨p, hp, rfl⟩ := List.mem_map.1 (L.clean n hn)
 exact L.below p hp
theorem LiveD.tfree {F : Fls} {st : Db} {D : Disk} {age c : Nat} (L : LiveD F st D) (l : Lims st D age c) : F (tfN st.next) = none := by
 cases hf : F (tfN st.next) with
 | none => rfl
 | some p => exact absurd (L.tlt l (n := st.next) (by rw [hf]; simp)) (by omega)
/-- as it stands -/
theorem LiveD.recS {F : Fls} {st : Db} {D : Disk} {age c : Nat} (L : LiveD F st D) (l : Lims st D age c) : RecS F age c (mapS st) := fun G cr => by
 refine ⟨D, L.ok.crash cr, L.rlim l fun n hn => ?_, L.map⟩
 have h1 := L.tlt l (cr.some hn)
 have := l.next; omega
/-- beside files that aren't named -/
theorem LiveD.recT {F F' : Fls} {st : Db} {D : Disk} {age c : Nat} (L : LiveD F st D) (l : Lims st D age c) (hk : ∀ x, (∀ n, n ∉ st.ts.map (·.1) → x ≠ tfN n) → F' x = F x) (ht : ∀ n, F' (tfN n) ≠ none → n < 8 * age + 8) : DiskOk F' D ∧ RecS F' age c (mapS st) := by
 have h1 : DiskOk F' D := L.ok.tput fun x hx => hk x fun n hn => hx n (by rw [L.names]; exact hn)
 exact ⟨h1, fun G cr => ⟨D, h1.crash cr, L.rlim l fun n hn => ht n (cr.some hn), L.map⟩⟩
/-! ### another note -/
theorem bats_of {D D' : Disk} {f : Nat} (hL : D'.L = D.L) (ht : D'.ltop = D.ltop) (hf : (lastN D').frm = f) : batsD D' = (List.range D.ltop).flatMap fun n => if n < f then [] else D.L n := by
 unfold batsD
 rw [hL, ht, hf]
theorem bats_same {D D' : Disk} (hL : D'.L = D.L) (ht : D'.ltop = D.ltop) (hf : (lastN D').frm = (lastN D).frm) : batsD D' = batsD D := by
 rw [bats_of hL ht hf]; rfl
theorem bats_none {D D' : Disk} {f : Nat} (hL : D'.L = D.L) (ht : D'.ltop = D.ltop) (hf : (lastN D').frm = f) (hn : ∀ n, f ≤ n → D.L n = []) : batsD D' = [] := by
 rw [bats_of hL ht hf, List.flatMap_eq_nil_iff]
 intro n _
 split
 ·rfl
 ·exact hn n (by omega)
theorem map_same {D D' : Disk} (hL : D'.L = D.L) (ht : D'.ltop = D.ltop) (hl : lastN D' = lastN D) (hT : D'.T = D.T) : mapD D' = mapD D ∧ cntD D' = cntD D := by
 have e := bats_same hL ht (congrArg Nt.frm hl)
 unfold mapD freshD cntD
 rw [e, hl, hT]
 exact ⟨rfl, rfl⟩
/-! ### a store: in memory and on files -/
structure StoreAt (B : Bud) (g h : Heap) (q : Hp) (k : Nat → Nat) (st : Db) (m : Bx) (D : Disk) (age c : Nat) : Prop where
 mem : DbH g h q k st m
 up : m.down = false
 disk : LiveD (ff m) st D
 lim : Lims st D age c
 wt : wtF m.files ≤ B.W0 + age * B.K
 hc : c ≤ B.C
theorem StoreAt.age {B : Bud} {g h : Heap} {q : Hp} {k : Nat → Nat} {st : Db} {m : Bx} {D : Disk} {age age' c : Nat} (S : StoreAt B g h q k st m D age c) (ha : age ≤ age') : StoreAt B g h q k st m D age' c :=
 ⟨S.mem, S.up, S.disk, S.lim.mono ha (Nat.le_refl _), Nat.le_trans S.wt (Nat.add_le_add_left (Nat.mul_le_mul_right _ ha) _), S.hc⟩
theorem total_eq (l : List (List Pr)) : M.total l = (l.map List.length).sum := rfl
theorem LiveD.cnt {F : Fls} {st : Db} {D : Disk} (L : LiveD F st D) : cntD D = M.total (G.tabsS st) + (batsD D).flatten.length := by
 unfold cntD
 rw [← L.tabsS, total_eq, List.map_map]; rfl
theorem fresh_len (D : Disk) : (freshD D).length ≤ (batsD D).flatten.length := by
 have := M.putsL_len (l := (batsD D).flatten) (t := [])
 unfold freshD; simpa using this
theorem LiveD.frlen {F : Fls} {st : Db} {D : Disk} {age c : Nat} (L : LiveD F st D) (l : Lims st D age c) : st.fr.length + M.total (G.tabsS st) ≤ c := by
 have h1 := L.cnt
 have h2 := fresh_len D
 have h3 := l.prs
 rw [L.fr]; omega
theorem LiveD.alllen {F : Fls} {st : Db} {D : Disk} {age c : Nat} (L : LiveD F st D) (l : Lims st D age c) : (refAllL (st.fr :: G.tabsS st)).length ≤ c := by
 have h1 := M.refAllL_len (st.fr :: G.tabsS st)
 rw [M.total_cons] at h1
 have := L.frlen l; omega
theorem LiveD.leftlen {F : Fls} {st : Db} {D : Disk} {age c : Nat} (L : LiveD F st D) (l : Lims st D age c) : (leftL (G.tabsS st)).length ≤ M.total (G.tabsS st) := by
 have h1 := M.refAllL_len (G.tabsS st)
 have h2 := live_len (refAllL (G.tabsS st))
 unfold leftL; omega
end Go.Lf.G

