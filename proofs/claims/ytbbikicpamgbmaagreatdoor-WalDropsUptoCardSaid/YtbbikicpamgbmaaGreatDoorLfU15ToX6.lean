/-
  The plain law of a box, file by file: firm and soft bytes.
-/
import Derived.Test.YtbbikicpamgbmaaGreatDoorLfU2ToV1
import Derived.Test.YtbbikicpamgbmaaGreatDoorLfU10ToS1
import Derived.Test.YtbbikicpamgbmaaGreatDoorLfS3ToS5
set_option maxRecDepth 100000
set_option linter.unusedVariables false
set_option linter.unusedSimpArgs false
namespace Go.Lf
open Go

/-- a file's firm and soft bytes -/
def ff (m : Bx) (k : ByteArray) : Option (ByteArray × ByteArray) := (findF k m.files).map fun f => (f.firm, f.soft)
theorem ff_new (k : ByteArray) : ff newB k = none := rfl
theorem ff_some {m : Bx} {k : ByteArray} : (findF k m.files).isSome = (ff m k).isSome := by unfold ff; cases findF k m.files <;> rfl
theorem ff_read {m : Bx} (hd : m.down = false) (k : ByteArray) : readB m k = match ff m k with | none => (bs0, 31) | some p => (p.1 ++ p.2, 0) := by
  unfold readB ff
  rw [if_neg (by simp [hd])]
  cases findF k m.files <;> rfl
theorem ff_tick (m : Bx) (l : List Fi) (k : ByteArray) : ff { tickB m with files := l } k = (findF k l).map fun f => (f.firm, f.soft) := rfl
theorem find_haveF {k x : ByteArray} (l : List Fi) : findF x (haveF k l) = if x = k then some ((findF k l).getD ⟨k, bs0, bs0⟩) else findF x l := by
  unfold haveF
  cases hf : findF k l with
  | some f =>
    simp only [Option.isSome_some, if_true]
    by_cases hx : x = k
    · subst hx; simp [hf]
    · rw [if_neg hx]
  | none =>
    rw [if_neg (by simp), findF_ins (fun y hy => findF_none hf y hy)]
    by_cases hx : x = k
    · subst hx; simp
    · rw [if_neg hx, if_neg (fun h => hx h.symm)]
/-- a box that goes on: not down, fuel left -/
def Goes (m : Bx) : Prop := m.down = false ∧ m.fuel ≠ 0
theorem ff_append {m : Bx} (g : Goes m) {k d : ByteArray} (hk : badName k = false) : (appendB m k d).1 = 0 ∧ ∀ x, ff (appendB m k d).2 x = if x = k then some (((ff m k).getD (bs0, bs0)).1, ((ff m k).getD (bs0, bs0)).2 ++ d) else ff m x := by
  unfold appendB
  rw [if_neg (by simp [g.1]), if_neg (by simp [hk]), if_neg g.2]
  refine ⟨rfl, fun x => ?_⟩
  rw [ff_tick, findF_upd (g := addF d) (fun _ => rfl), find_haveF]
  unfold ff
  by_cases hx : x = k
  · subst hx
    rw [if_pos rfl, if_pos rfl]
    cases hf : findF x m.files with
    | none => simp [addF]
    | some f =>
      have := (findF_some hf).1
      simp [addF, this]
  · rw [if_neg hx, if_neg hx]
    cases hf : findF x m.files with
    | none => rfl
    | some f =>
      have := (findF_some hf).1
      simp only [Option.map_some]
      rw [if_neg (by rw [this]; exact hx)]
theorem ff_sync {m : Bx} (g : Goes m) {k : ByteArray} {p : ByteArray × ByteArray} (hk : ff m k = some p) : (syncB m k).1 = 0 ∧ ∀ x, ff (syncB m k).2 x = if x = k then some (p.1 ++ p.2, bs0) else ff m x := by
  have hf : ∃ f, findF k m.files = some f ∧ (f.firm, f.soft) = p := by
    unfold ff at hk
    cases hf : findF k m.files with
    | none => rw [hf] at hk; cases hk
    | some f => rw [hf] at hk; exact ⟨f, rfl, Option.some.inj hk⟩
  obtain ⟨f, hf, rfl⟩ := hf
  unfold syncB
  rw [if_neg (by simp [g.1]), if_neg (by simp [hf]), if_neg g.2]
  refine ⟨rfl, fun x => ?_⟩
  rw [ff_tick, findF_upd (g := firmF) (fun _ => rfl)]
  by_cases hx : x = k
  · subst hx
    have := (findF_some hf).1
    rw [if_pos rfl, hf]
    simp [firmF, this]
  · rw [if_neg hx]
    unfold ff
    cases hf2 : findF x m.files with
    | none => rfl
    | some f2 =>
      have := (findF_some hf2).1
      simp only [Option.map_some]
      rw [if_neg (by rw [this]; exact hx)]
theorem ff_delete {m : Bx} (g : Goes m) {k : ByteArray} (hk : (ff m k).isSome = true) : (deleteB m k).1 = 0 ∧ ∀ x, ff (deleteB m k).2 x = if x = k then none else ff m x := by
  have hf : (findF k m.files).isNone = false := by
    rw [← ff_some] at hk
    cases hf : findF k m.files with
    | none => rw [hf] at hk; cases hk
    | some f => rfl
  unfold deleteB
  rw [if_neg (by simp [g.1]), if_neg (by simp [hf]), if_neg g.2]
  refine ⟨rfl, fun x => ?_⟩
  rw [ff_tick, findF_del]
  split <;> rfl
theorem tick_goes {m : Bx} (l : List Fi) : ({ tickB m with files := l } : Bx).down = m.down := by
  show (tickB m).down = m.down
  unfold tickB; split <;> rfl
/-- calm: not down, no end of fuel -/
def Calm (m : Bx) : Prop := m.down = false ∧ m.fuel = -1
theorem Calm.goes {m : Bx} (c : Calm m) : Goes m := ⟨c.1, by rw [c.2]; decide⟩
theorem calm_tick {m : Bx} (c : Calm m) : tickB m = m := by unfold tickB; rw [if_neg (by rw [c.2]; decide)]
theorem calm_new : Calm newB := ⟨rfl, rfl⟩
theorem calm_crash (m : Bx) (ks : List Int) : Calm (crashB m ks) := ⟨rfl, rfl⟩
theorem calm_append {m : Bx} (c : Calm m) (k d : ByteArray) : Calm (appendB m k d).2 := by
  unfold appendB
  rw [if_neg (by simp [c.1])]
  split
  · exact c
  · rw [if_neg (by rw [c.2]; decide), calm_tick c]; exact ⟨c.1, c.2⟩
theorem calm_sync {m : Bx} (c : Calm m) (k : ByteArray) : Calm (syncB m k).2 := by
  unfold syncB
  rw [if_neg (by simp [c.1])]
  split
  · exact c
  · rw [if_neg (by rw [c.2]; decide), calm_tick c]; exact ⟨c.1, c.2⟩
theorem calm_delete {m : Bx} (c : Calm m) (k : ByteArray) : Calm (deleteB m k).2 := by
  unfold deleteB
  rw [if_neg (by simp [c.1])]
  split
  · exact c
  · rw [if_neg (by rw [c.2]; decide), calm_tick c]; exact ⟨c.1, c.2⟩

/-! ### a crash -/
/-- what is kept of a file that alone has soft bytes -/
def keptP (ks : List Int) (p : ByteArray × ByteArray) : ByteArray := if p.2 = bs0 then p.1 else match ks[0]? with | some n => p.1 ++ p.2.extract 0 (min n.toNat p.2.size) | none => p.1
def afterP (ks : List Int) (p : ByteArray × ByteArray) : Option (ByteArray × ByteArray) := if keptP ks p = bs0 then none else some (keptP ks p, bs0)
theorem kept_firm {ks : List Int} {k : Nat} {f : Fi} (h : f.soft = bs0) : keptF ks k f = f.firm := by unfold keptF; rw [if_pos h]
theorem find_crash_none {ks : List Int} : ∀ {l : List Fi} {k : Nat} {x : ByteArray}, findF x l = none → findF x (crashF ks k l) = none := by
  intro l k x h
  refine findF_none' fun f hf e => ?_
  obtain ⟨f', h1, h2⟩ := mem_crashF hf
  exact findF_none h f' h1 (h2.trans e)
/-- all firm -/
theorem crash_firm {ks : List Int} : ∀ {l : List Fi} {k : Nat} (x : ByteArray), SortedF l → (∀ f ∈ l, f.soft = bs0) → findF x (crashF ks k l) = (findF x l).bind fun f => if f.firm = bs0 then none else some ⟨f.name, f.firm, bs0⟩
  | [], _, x, _, _ => by simp [crashF, findF]
  | f :: l, k, x, s, hs => by
    have s' := List.pairwise_cons.1 s
    have hf := hs f (by simp)
    have hn : nextF k f = k := by unfold nextF; rw [if_pos hf]
    have hk : keptF ks k f = f.firm := kept_firm hf
    have ih := crash_firm (ks := ks) (k := k) x s'.2 fun g hg => hs g (List.mem_cons_of_mem _ hg)
    unfold crashF oneF
    rw [hk, hn, findF_cons]
    by_cases hx : f.name = x
    · rw [if_pos hx]
      by_cases hb : f.firm = bs0
      · rw [if_pos hb, List.nil_append]
        refine (find_crash_none (findF_none' fun g hg e => ?_)).trans (by simp [hb])
        have := lt_ne (s'.1 g hg)
        exact this (hx.trans e.symm)
      · rw [if_neg hb, List.singleton_append, findF_cons, if_pos hx]
        simp [hb]
    · rw [if_neg hx]
      by_cases hb : f.firm = bs0
      · rw [if_pos hb, List.nil_append]; exact ih
      · rw [if_neg hb, List.singleton_append, findF_cons, if_neg hx]; exact ih
theorem crash_one {ks : List Int} {c : ByteArray} : ∀ {l : List Fi} (x : ByteArray), SortedF l → (∀ f ∈ l, f.name ≠ c → f.soft = bs0) → findF x (crashF ks 0 l) = (findF x l).bind fun f => if keptF ks 0 f = bs0 then none else some ⟨f.name, keptF ks 0 f, bs0⟩
  | [], x, _, _ => by simp [crashF, findF]
  | f :: l, x, s, hs => by
    have s' := List.pairwise_cons.1 s
    by_cases hfs : f.soft = bs0
    · have hn : nextF 0 f = 0 := by unfold nextF; rw [if_pos hfs]
      have ih := crash_one (ks := ks) (c := c) x s'.2 fun g hg => hs g (List.mem_cons_of_mem _ hg)
      unfold crashF oneF
      rw [hn, findF_cons]
      by_cases hx : f.name = x
      · rw [if_pos hx]
        by_cases hb : keptF ks 0 f = bs0
        · rw [if_pos hb, List.nil_append]
          refine (find_crash_none (findF_none' fun g hg e => ?_)).trans (by simp [hb])
          exact lt_ne (s'.1 g hg) (hx.trans e.symm)
        · rw [if_neg hb, List.singleton_append, findF_cons, if_pos hx]
          simp [hb]
      · rw [if_neg hx]
        by_cases hb : keptF ks 0 f = bs0
        · rw [if_pos hb, List.nil_append]; exact ih
        · rw [if_neg hb, List.singleton_append, findF_cons, if_neg hx]; exact ih
    · have hc : f.name = c := Decidable.byContradiction fun h => hfs (hs f (by simp) h)
      have hrest : ∀ g ∈ l, g.soft = bs0 := fun g hg => hs g (List.mem_cons_of_mem _ hg) fun e => lt_ne (s'.1 g hg) (hc.trans e.symm)
      have ih := crash_firm (ks := ks) (k := nextF 0 f) x s'.2 hrest
      have e2 : ((findF x l).bind fun f => if keptF ks 0 f = bs0 then none else some (⟨f.name, keptF ks 0 f, bs0⟩ : Fi)) = (findF x l).bind fun f => if f.firm = bs0 then none else some ⟨f.name, f.firm, bs0⟩ := by
        cases hf : findF x l with
        | none => rfl
        | some g =>
          have := hrest g (findF_some hf).2
          simp only [Option.bind_some, kept_firm this]
      unfold crashF oneF
      rw [findF_cons]
      by_cases hx : f.name = x
      · rw [if_pos hx]
        by_cases hb : keptF ks 0 f = bs0
        · rw [if_pos hb, List.nil_append]
          refine (find_crash_none (findF_none' fun g hg e => ?_)).trans (by simp [hb])
          exact lt_ne (s'.1 g hg) (hx.trans e.symm)
        · rw [if_neg hb, List.singleton_append, findF_cons, if_pos hx]
          simp [hb]
      · rw [if_neg hx, e2]
        by_cases hb : keptF ks 0 f = bs0
        · rw [if_pos hb, List.nil_append]; exact ih
        · rw [if_neg hb, List.singleton_append, findF_cons, if_neg hx]; exact ih
theorem ff_crash {m : Bx} (g : GoodB m) {ks : List Int} {c : ByteArray} (h : ∀ x p, x ≠ c → ff m x = some p → p.2 = bs0) (x : ByteArray) : ff (crashB m ks) x = (ff m x).bind (afterP ks) := by
  have h1 : ∀ f ∈ m.files, f.name ≠ c → f.soft = bs0 := fun f hf hn => by
    have h2 := g.sorted.find hf
    exact h f.name (f.firm, f.soft) hn (by unfold ff; rw [h2]; rfl)
  have := crash_one (ks := ks) x g.sorted h1
  unfold ff
  show (findF x (crashF ks 0 m.files)).map _ = _
  rw [this]
  cases findF x m.files with
  | none => rfl
  | some f =>
    simp only [Option.bind_some, Option.map_some, afterP]
    have e : keptF ks 0 f = keptP ks (f.firm, f.soft) := rfl
    rw [e]
    split <;> rfl

/-! ### lists of numbers in order -/
theorem inc_ext : ∀ {l l' : List Nat}, l.Pairwise (· < ·) → l'.Pairwise (· < ·) → (∀ n, n ∈ l ↔ n ∈ l') → l = l'
  | [], [], _, _, _ => rfl
  | [], b :: l', _, _, h => by have := (h b).2 (by simp); cases this
  | a :: l, [], _, _, h => by have := (h a).1 (by simp); cases this
  | a :: l, b :: l', h1, h2, h => by
    rw [List.pairwise_cons] at h1 h2
    have hab : a = b := by
      rcases List.mem_cons.1 ((h a).1 (by simp)) with e | e
      · exact e
      · rcases List.mem_cons.1 ((h b).2 (by simp)) with e2 | e2
        · exact e2.symm
        · have := h2.1 a e; have := h1.1 b e2; omega
    subst hab
    have : l = l' := inc_ext h1.2 h2.2 fun n => by
      constructor
      · intro hn
        rcases List.mem_cons.1 ((h n).1 (List.mem_cons_of_mem _ hn)) with e | e
        · have := h1.1 n hn; omega
        · exact e
      · intro hn
        rcases List.mem_cons.1 ((h n).2 (List.mem_cons_of_mem _ hn)) with e | e
        · have := h2.1 n hn; omega
        · exact e
    rw [this]
theorem range_inc (a k : Nat) : (List.range' a k).Pairwise (· < ·) := List.pairwise_lt_range' ..
theorem range_mem {a k n : Nat} : n ∈ List.range' a k ↔ a ≤ n ∧ n < a + k := by simp [List.mem_range'_1]
end Go.Lf

/-
  Contracts: a log's segments dropped; what a log holds; a log that is awake (chapter 4).
-/
set_option maxRecDepth 100000
set_option linter.unusedVariables false
set_option linter.unusedSimpArgs false
namespace Go.Lf.G
open Go

theorem segl_range {nm : ByteArray} {m : Bx} {l : List Nat} {a k : Nat} (SL : SegL nm m l) (h : ∀ n, 1 ≤ n → n ≤ 99999999 → ((ff m (fnB nm n)).isSome = true ↔ a ≤ n ∧ n < a + k)) (h1 : 1 ≤ a) (h2 : a + k ≤ 100000000) : l = List.range' a k := by
  refine inc_ext SL.inc (range_inc a k) fun n => ?_
  rw [SL.mem, range_mem, ff_some]
  constructor
  · rintro ⟨n1, n2, n3⟩
    exact (h n n1 n2).1 n3
  · intro hn
    exact ⟨by omega, by omega, (h n (by omega) (by omega)).2 hn⟩
theorem range_last (k : Nat) : (List.range' 1 k).getLast?.getD 0 = k := by
  cases k with
  | zero => rfl
  | succ k => rw [List.range'_concat, List.getLast?_concat]; simp; omega
theorem range_last' {a k : Nat} : (List.range' a (k + 1)).getLast?.getD 0 = a + k := by
  rw [List.range'_concat, List.getLast?_concat]; simp
theorem recs_eq {nm : ByteArray} {m : Bx} {l : List Nat} {R : Nat → List ByteArray} (hd : m.down = false) (h : ∀ n ∈ l, ∃ p, ff m (fnB nm n) = some p ∧ Scan (bl (p.1 ++ p.2)) ((R n).map bl)) : recsB nm m l = l.flatMap R := by
  unfold recsB
  induction l with
  | nil => rfl
  | cons n l ih =>
    obtain ⟨p, h1, h2⟩ := h n (by simp)
    rw [List.flatMap_cons, List.flatMap_cons, ih fun k hk => h k (List.mem_cons_of_mem _ hk)]
    congr 1
    have e : rdB m nm n = p.1 ++ p.2 := by unfold rdB; rw [ff_read hd, h1]
    rw [e, scanL_of h2, List.map_map]
    conv => rhs; rw [← List.map_id (R n)]
    exact List.map_congr_left fun x _ => strL_bl x
theorem fn_good {nm : ByteArray} {n : Nat} (h8 : nm.size ≤ 8) (hn : n ≤ 99999999) : badName (fnB nm n) = false := by
  have h1 := fnB_size (nm := nm) hn
  unfold badName
  rw [Bool.or_eq_false_iff, decide_eq_false_iff_not, decide_eq_false_iff_not]
  refine ⟨fun h => ?_, by omega⟩
  rw [h] at h1
  have : bs0.size = 0 := rfl
  omega

theorem segl_len {nm : ByteArray} {m : Bx} {l : List Nat} (SL : SegL nm m l) : l.length ≤ 99999999 := by
  have h1 : ∀ (l : List Nat) (k : Nat), l.Pairwise (· < ·) → (∀ n ∈ l, k < n ∧ n ≤ 99999999) → l.length + k ≤ 99999999 ∨ l = [] := by
    intro l
    induction l with
    | nil => intro k _ _; exact .inr rfl
    | cons a l ih =>
      intro k hp hr
      rw [List.pairwise_cons] at hp
      have ha := hr a (by simp)
      rcases ih a hp.2 (fun n hn => ⟨hp.1 n hn, (hr n (List.mem_cons_of_mem _ hn)).2⟩) with h | h
      · left; simp only [List.length_cons]; omega
      · subst h; left; simp; omega
  rcases h1 l 0 SL.inc (fun n hn => by have := (SL.mem n).1 hn; omega) with h | h
  · omega
  · subst h; simp
theorem lDrop_ok {A : Amb} {h : Heap} {lg b seg : Nat} {nm : ByteArray} {made : Bool} {S : Nat → Prop} {m : Bx} {upto : Int} {R : Value → Heap → Prop} (E : Evn h) (hE : ∀ h', Mod S h h' → Evn h') (L : IsLog h lg b nm seg made) (B : IsBox h b S m) (c : Calm m) (hS : ¬ S lg) (hnm : nm.size ≤ 8) (hw : wtF m.files ≤ 1073741824)
    (H0 : upto ≥ (seg : Int) → R (.int .i64 1) h)
    (H1 : upto < (seg : Int) → ∀ h' S' m', IsBox h' b S' m' → Calm m' → Mod S h h' → (∀ c, S' c → S c) → wtF m'.files ≤ wtF m.files → (∀ n : Nat, 1 ≤ n → n ≤ 99999999 → (n : Int) ≤ upto → ff m' (fnB nm n) = none) →
      (∀ x, (∀ n : Nat, 1 ≤ n → n ≤ 99999999 → (n : Int) ≤ upto → x ≠ fnB nm n) → ff m' x = ff m x) → R (.int .i64 0) h') : HCalls A P f_wal_Log_Drop #[ptrV lg, .int .i64 upto] h R := by
  refine ok_wal_Log_Drop ?_
  unfold F_wal_Log_Drop
  refine Join.mk fun K hK => PIf.no rfl (atI (LoadI.mk (hget_lit1 L rfl) (hK _ _ ?_)))
  refine PIf.intro (fun q => H0 (by simpa using q)) (fun q => ?_)
  have hup : upto < (seg : Int) := by simpa using q
  refine atI (LoadP.mk (hget_lit L rfl) (atI (LoadS.mk (hget_lit1 L rfl) ?_)))
  refine segments_ok E B c.1 (by omega) hw fun h2 s2 l SL v2 x2 f2 => ⟨s2, _, rfl, PIf.no rfl ?_⟩
  have hlen : (l.map fun n : Nat => (n : Int)).length = l.length := List.length_map ..
  have hr : ∀ n ∈ l, 1 ≤ n ∧ n ≤ 99999999 ∧ (ff m (fnB nm n)).isSome = true := fun n hn => by
    have := (SL.mem n).1 hn
    rw [ff_some] at this
    exact this
  have hnd : l.Nodup := List.nodup_iff_pairwise_ne.2 (SL.inc.imp fun h => Nat.ne_of_lt h)
  have hl9 := segl_len SL
  refine Loop.rule (fun mm x hh => ∃ (i : Nat) (Si : Nat → Prop) (mi : Bx), x = ((i : Int), ()) ∧ IsBox hh b Si mi ∧ Calm mi ∧ Mod S h hh ∧ Mod S h2 hh ∧ (∀ c, Si c → S c) ∧ wtF mi.files ≤ wtF m.files ∧ (∀ n ∈ l.take i, (n : Int) ≤ upto → ff mi (fnB nm n) = none) ∧ (∀ x, (∀ n ∈ l.take i, (n : Int) ≤ upto → x ≠ fnB nm n) → ff mi x = ff m x) ∧ i ≤ l.length ∧ mm = l.length - i) ?_
    ⟨0, S, m, rfl, B.ext x2, c, Ext.mod x2, Mod.refl, fun _ h => h, Nat.le_refl _, by simp, fun _ _ => rfl, Nat.zero_le _, rfl⟩
  rintro K1 mm _ hh ⟨i, Si, mi, rfl, Bi, ci, md, md2, hSi, hwi, hi1, hi2, hi, rfl⟩ hK1
  have vh : View IntE hh s2 (l.map fun n : Nat => (n : Int)) := v2.mod md2 fun c hc hs => by have := f2 c hc; have := B.lt hs; omega
  rw [v2.len, hlen]
  refine PIf.intro (fun hq => ?_) (fun hq => ?_)
  · have hil : i < l.length := by simpa using hq
    have hget : l[i]? = some l[i] := List.getElem?_eq_getElem hil
    obtain ⟨n1, n9, hff⟩ := hr l[i] (List.getElem_mem hil)
    have htk : l.take (i + 1) = l.take i ++ [l[i]] := by rw [List.take_add_one, hget]; rfl
    have hni : ∀ n ∈ l.take i, n < l[i] := fun n hn => by
      have := SL.inc
      rw [← List.take_append_drop (i + 1) l, htk] at this
      have h3 := (List.pairwise_append.1 (List.pairwise_append.1 this).1).2.2 n hn l[i] (by simp)
      exact h3
    refine Join.mk fun K2 hK2 => ?_
    have fin : ∀ S' m' h', IsBox h' b S' m' → Calm m' → Mod S h h' → Mod S h2 h' → (∀ c, S' c → S c) → wtF m'.files ≤ wtF m.files → (∀ n ∈ l.take (i + 1), (n : Int) ≤ upto → ff m' (fnB nm n) = none) → (∀ x, (∀ n ∈ l.take (i + 1), (n : Int) ≤ upto → x ≠ fnB nm n) → ff m' x = ff m x) → K2 () h' := fun S' m' h' B' c' md' md2' hS' hw' f1 f2 => by
      refine hK2 _ _ ?_
      dsimp only
      rw [wrap_succ (by omega)]
      exact hK1 (l.length - (i + 1)) _ _ (by omega) ⟨i + 1, S', m', rfl, B', c', md', md2', hS', hw', f1, f2, hil, rfl⟩
    rw [← hlen, ← v2.len]
    refine vh.idx (i := i) (x := (l[i] : Int)) (by rw [List.getElem?_map, hget]; rfl) fun a _ c => ?_
    refine LoadI.mk c.int ?_
    refine PIf.intro (fun q => ?_) (fun q => ?_)
    · have q : (l[i] : Int) ≤ upto := by simpa using q
      have Lh : IsLog hh lg b nm seg made := L.mod md hS
      refine atI (LoadP.mk (hget_lit Lh rfl) (atI (LoadS.mk (hget_lit1 Lh rfl) ?_)))
      refine file_ok (hE hh md) (by omega) (by omega) fun h5 x5 => ⟨_, rfl, ⟨hget_lit (Lh.ext x5) rfl, ?_⟩⟩
      refine bDelete_ok (Bi.ext x5) fun h6 S6 B6 m6 s6 => ⟨_, rfl, ?_⟩
      have hsome : (ff mi (fnB nm l[i])).isSome = true := by
        rw [hi2 (fnB nm l[i]) fun n hn _ e => by have := hni n hn; have := fnB_inj e; omega]
        exact hff
      obtain ⟨d1, d2⟩ := ff_delete ci.goes hsome
      rw [d1]
      have md6 := (Ext.mod x5).trans (m6.weak fun c _ hc => hSi c hc)
      refine PIf.no rfl (fin S6 _ h6 B6 (calm_delete ci _) (md.trans md6) (md2.trans md6) (fun c hc => hSi c (s6 c hc)) (Nat.le_trans (wt_delete _) hwi) ?_ ?_)
      · intro n hn hnu
        rw [d2]
        split
        · rfl
        · rename_i hne
          rw [htk] at hn
          rcases List.mem_append.1 hn with hn | hn
          · exact hi1 n hn hnu
          · exact absurd (by rw [List.mem_singleton.1 hn]) hne
      · intro x hx
        rw [d2, if_neg (hx l[i] (by rw [htk]; exact List.mem_append.2 (.inr (List.mem_singleton.2 rfl))) q)]
        exact hi2 x fun n hn => hx n (by rw [htk]; exact List.mem_append.2 (.inl hn))
    · have q : ¬ (l[i] : Int) ≤ upto := by simpa using q
      refine fin Si mi hh Bi ci md md2 hSi hwi ?_ ?_
      · intro n hn hnu
        rw [htk] at hn
        rcases List.mem_append.1 hn with hn | hn
        · exact hi1 n hn hnu
        · rw [List.mem_singleton.1 hn] at hnu; exact absurd hnu q
      · intro x hx
        exact hi2 x fun n hn => hx n (by rw [htk]; exact List.mem_append.2 (.inl hn))
  · have hil : i = l.length := by simp at hq; omega
    subst hil
    rw [List.take_length] at hi1 hi2
    refine H1 hup hh Si mi Bi ci md hSi hwi ?_ ?_
    · intro n n1 n9 hnu
      by_cases hn : n ∈ l
      · exact hi1 n hn hnu
      · rw [hi2 (fnB nm n) fun k hk _ e => hn (by rw [fnB_inj e]; exact hk)]
        have : ¬ ((ff m (fnB nm n)).isSome = true) := fun h => hn ((SL.mem n).2 ⟨n1, n9, by rw [ff_some]; exact h⟩)
        cases hf : ff m (fnB nm n) with
        | none => rfl
        | some p => rw [hf] at this; exact absurd rfl this
    · intro x hx
      exact hi2 x fun n hn hnu => hx n (hr n hn).1 (hr n hn).2.1 hnu
end Go.Lf.G

/-
  A log over a calm box, step by step; a log that is awake (chapter 4).
-/
set_option maxRecDepth 100000
set_option linter.unusedVariables false
set_option linter.unusedSimpArgs false
namespace Go.Lf.G
open Go

/-- a log over a box, behind h -/
structure Lw (h : Heap) (lg b : Nat) (nm : ByteArray) (hh : Heap) (S : Nat → Prop) (m : Bx) (seg : Nat) (made : Bool) : Prop where
  box : IsBox hh b S m
  log : IsLog hh lg b nm seg made
  ext : Ext h hh
  fresh : ∀ c, S c → h.size ≤ c ∧ c ≠ lg
  lgn : h.size ≤ lg
theorem Lw.nS {h : Heap} {lg b : Nat} {nm : ByteArray} {hh : Heap} {S : Nat → Prop} {m : Bx} {seg : Nat} {made : Bool} (W : Lw h lg b nm hh S m seg made) : ¬ S lg := fun hc => (W.fresh _ hc).2 rfl
theorem Lw.on {h : Heap} {lg b : Nat} {nm : ByteArray} {hh h2 : Heap} {S : Nat → Prop} {m : Bx} {seg : Nat} {made : Bool} (W : Lw h lg b nm hh S m seg made) (x : Ext hh h2) : Lw h lg b nm h2 S m seg made :=
  ⟨W.box.ext x, W.log.ext x, W.ext.trans x, W.fresh, W.lgn⟩
theorem Lw.env {h : Heap} {lg b : Nat} {nm : ByteArray} {hh h2 : Heap} {S : Nat → Prop} {m : Bx} {seg : Nat} {made : Bool} (W : Lw h lg b nm hh S m seg made) (E : Evn h) (x : Mod S hh h2) : Evn h2 := E.ext (W.ext.more x fun c hc => (W.fresh c hc).1)
theorem Lw.upd {h : Heap} {lg b : Nat} {nm : ByteArray} {hh h2 : Heap} {S S2 : Nat → Prop} {m m2 : Bx} {seg seg2 : Nat} {made made2 : Bool} (W : Lw h lg b nm hh S m seg made) (B : IsBox h2 b S2 m2) (L : IsLog h2 lg b nm seg2 made2) (x : Mod (fun c => S c ∨ c = lg) hh h2) (s : ∀ c, S2 c → S c ∨ (hh.size ≤ c ∧ c ≠ lg)) : Lw h lg b nm h2 S2 m2 seg2 made2 := by
  have hx := W.ext.size
  refine ⟨B, L, W.ext.more x fun c hc => ?_, fun c hc => ?_, W.lgn⟩
  · rcases hc with hc | rfl
    · exact (W.fresh c hc).1
    · exact W.lgn
  · rcases s c hc with h | h
    · exact W.fresh c h
    · exact ⟨by omega, h.2⟩

def frm (rec : ByteArray) : ByteArray := strL (wrapL (bl rec))
theorem frm_size {rec : ByteArray} (h : rec.size ≤ 1048576) : rec.size + 5 ≤ (frm rec).size ∧ (frm rec).size ≤ rec.size + 14 := by
  have := wrapL_len (r := bl rec) (by rw [bl_size]; exact h)
  rw [bl_size] at this
  rw [frm, strL_size]
  exact this
theorem Lw.append {A : Amb} {h : Heap} {lg b : Nat} {nm rec : ByteArray} {hh : Heap} {S : Nat → Prop} {m : Bx} {seg : Nat} {made : Bool} {R : Value → Heap → Prop} (W : Lw h lg b nm hh S m seg made) (E : Evn h) (c : Calm m) (h8 : nm.size ≤ 8) (hseg : seg ≤ 99999999) (hr : rec.size ≤ 1048576) (hw : wtF m.files ≤ 1073741824)
    (H : ∀ h' S' m', Lw h lg b nm h' S' m' seg true → Calm m' → (∀ x, ff m' x = if x = fnB nm seg then some (((ff m (fnB nm seg)).getD (bs0, bs0)).1, ((ff m (fnB nm seg)).getD (bs0, bs0)).2 ++ frm rec) else ff m x) → wtF m'.files ≤ wtF m.files + rec.size + 15 →
      Mod (fun c => S c ∨ c = lg) hh h' → (∀ c, S' c → S c ∨ (hh.size ≤ c ∧ c ≠ lg)) → R (.int .i64 0) h') : HCalls A P f_wal_Log_Append #[ptrV lg, .string rec] hh R := by
  refine lAppend_ok (E.ext W.ext) W.log W.box W.nS (fun h' x => W.env E x) (by omega) (by omega) hr hw fun h' S' B' L' md s' => ?_
  obtain ⟨e1, e2⟩ := ff_append c.goes (k := fnB nm seg) (d := frm rec) (fn_good h8 hseg)
  have e1' : (appendB m (fnB nm seg) (strL (wrapL (bl rec)))).1 = 0 := e1
  rw [e1'] at L' ⊢
  rw [decide_eq_true rfl, Bool.or_true] at L'
  have hwt := wt_append W.box.good (fnB nm seg) (frm rec)
  have hfs := frm_size hr
  exact H h' S' _ (W.upd B' L' md s') (calm_append c _ _) e2 (Nat.le_trans hwt (by omega)) md s'
theorem Lw.sync {A : Amb} {h : Heap} {lg b : Nat} {nm : ByteArray} {hh : Heap} {S : Nat → Prop} {m : Bx} {seg : Nat} {made : Bool} {R : Value → Heap → Prop} (W : Lw h lg b nm hh S m seg made) (E : Evn h) (c : Calm m) (h8 : nm.size ≤ 8) (hseg : seg ≤ 99999999) (hm : made = true → (ff m (fnB nm seg)).isSome = true)
    (H : ∀ h' m', Lw h lg b nm h' S m' seg made → Calm m' → (∀ x, ff m' x = if x = fnB nm seg ∧ made = true then (ff m x).map (fun p => (p.1 ++ p.2, bs0)) else ff m x) → wtF m'.files ≤ wtF m.files → Mod S hh h' → R (.int .i64 0) h') : HCalls A P f_wal_Log_Sync #[ptrV lg] hh R := by
  refine lSync_ok (E.ext W.ext) W.log W.box W.nS (by omega) (by omega) fun h' B' L' md => ?_
  cases made with
  | false =>
    exact H h' m (W.upd B' L' (md.weak fun c _ hc => .inl hc) fun c hc => .inl hc) c (fun x => by rw [if_neg (by simp)]) (Nat.le_refl _) md
  | true =>
    obtain ⟨p, hp⟩ := Option.isSome_iff_exists.1 (hm rfl)
    obtain ⟨e1, e2⟩ := ff_sync c.goes hp
    have e1' : (syncL m (fnB nm seg) true).1 = 0 := e1
    rw [e1']
    refine H h' _ (W.upd B' L' (md.weak fun c _ hc => .inl hc) fun c hc => .inl hc) (calm_sync c _) (fun x => ?_) (wt_sync W.box.good _) md
    show ff (syncB m (fnB nm seg)).2 x = _
    rw [e2]
    by_cases hx : x = fnB nm seg
    · subst hx; rw [if_pos rfl, if_pos ⟨rfl, rfl⟩, hp]; rfl
    · rw [if_neg hx, if_neg (fun h => hx h.1)]
theorem Lw.rotate {A : Amb} {h : Heap} {lg b : Nat} {nm : ByteArray} {hh : Heap} {S : Nat → Prop} {m : Bx} {seg : Nat} {R : Value → Heap → Prop} (W : Lw h lg b nm hh S m seg true) (E : Evn h) (c : Calm m) (h8 : nm.size ≤ 8) (hseg : seg < 99999999) (hm : (ff m (fnB nm seg)).isSome = true)
    (H : ∀ h' m', Lw h lg b nm h' S m' (seg + 1) false → Calm m' → (∀ x, ff m' x = if x = fnB nm seg then (ff m x).map (fun p => (p.1 ++ p.2, bs0)) else ff m x) → wtF m'.files ≤ wtF m.files → Mod (fun c => S c ∨ c = lg) hh h' → R (.tuple #[.int .i64 (seg : Int), .int .i64 0]) h') : HCalls A P f_wal_Log_Rotate #[ptrV lg] hh R := by
  obtain ⟨p, hp⟩ := Option.isSome_iff_exists.1 hm
  obtain ⟨e1, e2⟩ := ff_sync c.goes hp
  have e1' : (syncL m (fnB nm seg) true).1 = 0 := e1
  refine lRotate_ok (E.ext W.ext) W.log W.box W.nS (by omega) hseg (fun hne => absurd e1' hne) fun _ h' B' L' md => ?_
  refine H h' _ (W.upd B' L' md fun c hc => .inl hc) (calm_sync c _) (fun x => ?_) (wt_sync W.box.good _) md
  show ff (syncB m (fnB nm seg)).2 x = _
  rw [e2]
  by_cases hx : x = fnB nm seg
  · subst hx; rw [if_pos rfl, if_pos rfl, hp]; rfl
  · rw [if_neg hx, if_neg hx]

abbrev nx : ByteArray := ⟨#[120]⟩
theorem nx_size : nx.size = 1 := rfl
/-- opened where the segments are those from a on, k of them, each read as R says -/
theorem openR_ok {A : Amb} {h hh : Heap} {b a k : Nat} {S : Nat → Prop} {m : Bx} {Rc : Nat → List ByteArray} {R : Value → Heap → Prop} (E : Evn h) (B : IsBox hh b S m) (x0 : Ext h hh) (fr : ∀ c, S c → h.size ≤ c) (c : Calm m) (hw : wtF m.files ≤ 1073741824)
    (ha : 1 ≤ a) (hk : a + k ≤ 99999999) (hs : ∀ n, 1 ≤ n → n ≤ 99999999 → ((ff m (fnB nx n)).isSome = true ↔ a ≤ n ∧ n < a + k)) (hr : ∀ n, a ≤ n → n < a + k → ∃ p, ff m (fnB nx n) = some p ∧ Scan (bl (p.1 ++ p.2)) ((Rc n).map bl))
    (H : ∀ h' lg sl, Lw h lg b nx h' S m (if k = 0 then 1 else a + k) false → Ext hh h' → hh.size ≤ lg → View StrE h' sl ((List.range' a k).flatMap Rc) → (∀ c, sl.blk = some c → hh.size ≤ c) → R (.tuple #[ptrV lg, .slice sl.p sl.len sl.cap, .int .i64 0]) h') : HCalls A P f_wal_Open #[ptrV b, .string nx] hh R := by
  have last : ∀ l, SegL nx m l → l = List.range' a k ∧ l.getLast?.getD 0 + 1 = (if k = 0 then 1 else a + k) ∧ l.getLast?.getD 0 ≠ 99999999 := fun l SL => by
    have e := segl_range SL hs ha (by omega)
    subst e
    cases k with
    | zero => exact ⟨rfl, rfl, by simp⟩
    | succ k =>
      rw [range_last', if_neg (by omega)]
      exact ⟨rfl, by omega, by omega⟩
  refine Open_ok (E.ext x0) B c.1 (by decide) (by decide) hw (fun h' l SL hl x => absurd hl (last l SL).2.2) fun h' l lg sl SL hl x hlg L v f => ?_
  obtain ⟨e1, e2, _⟩ := last l SL
  subst e1
  rw [e2] at L
  rw [recs_eq (R := Rc) c.1 fun n hn => by rw [range_mem] at hn; exact hr n hn.1 hn.2] at v
  have hb : ∀ c, S c → c < hh.size := fun c hc => B.lt hc
  exact H h' lg sl ⟨B.ext x, L, x0.trans x, fun c hc => ⟨fr c hc, by have := hb c hc; omega⟩, by have := x0.size; omega⟩ x hlg v f

theorem awake04_ok {A : Amb} {h : Heap} {R : Value → Heap → Prop} (E : Evn h) (H : ∀ h', Ext h h' → R (.bool true) h') : HCalls A P f_wherrylaw04_awake #[] h R := by
  refine ok_wherrylaw04_awake ?_
  unfold F_wherrylaw04_awake
  refine bNew_ok fun b h1 S B x1 hS => ⟨_, rfl, ?_⟩
  have ka : ∀ n, 1 ≤ n → n ≤ 99999999 → ((ff newB (fnB nx n)).isSome = true ↔ 1 ≤ n ∧ n < 1 + 0) := fun n h1 _ => by rw [ff_new]; simp; omega
  refine openR_ok (a := 1) (k := 0) (Rc := fun _ => []) E B x1 hS calm_new (by simp [newB, wtF]) (by decide) (by decide) ka (fun n h1 h2 => by omega) fun h2 lg s2 W2 x2 _ v2 _ => ⟨_, s2, _, rfl, ?_⟩
  rw [if_pos rfl] at W2
  refine W2.append (rec := ⟨#[97]⟩) E calm_new (by decide) (by decide) (by decide) (by simp [newB, wtF]) fun h3 S3 m3 W3 c3 f3 w3 md3 s3 => ⟨_, rfl, ?_⟩
  have hw0 : wtF newB.files = 0 := rfl
  have hsz : (⟨#[97]⟩ : ByteArray).size = 1 := rfl
  have hsz2 : (⟨#[98]⟩ : ByteArray).size = 1 := rfl
  refine W3.sync E c3 (by decide) (by decide) (fun _ => by rw [f3, if_pos rfl]; rfl) fun h4 m4 W4 c4 f4 w4 md4 => ⟨_, rfl, ?_⟩
  refine W4.append (rec := ⟨#[98]⟩) E c4 (by decide) (by decide) (by decide) (by omega) fun h5 S5 m5 W5 c5 f5 w5 md5 s5 => ⟨_, rfl, ?_⟩
  have hcur : ff m5 (fnB nx 1) = some (frm ⟨#[97]⟩, bs0 ++ frm ⟨#[98]⟩) := by
    rw [f5, if_pos rfl, f4, if_pos ⟨rfl, rfl⟩, f3, if_pos rfl, ff_new]
    simp [nil_app]
  have hoth : ∀ x, x ≠ fnB nx 1 → ff m5 x = none := fun x hx => by
    rw [f5, if_neg hx, f4, if_neg (fun h => hx h.1), f3, if_neg hx]; rfl
  refine bCrash_ok (keep := ⟨none, 0, 0⟩) (ks := []) W5.box View.nil fun b6 h6 S6 B0 B6 md6 s6 => ⟨_, rfl, ?_⟩
  have hff : ∀ x, ff (crashB m5 []) x = (ff m5 x).bind (afterP []) := ff_crash W5.box.good (c := fnB nx 1) fun x p hx hp => by rw [hoth x hx] at hp; cases hp
  have hkp : keptP [] (frm ⟨#[97]⟩, bs0 ++ frm ⟨#[98]⟩) = frm ⟨#[97]⟩ := by
    unfold keptP; split <;> rfl
  have hne : frm ⟨#[97]⟩ ≠ bs0 := fun e => by
    have h1 := congrArg ByteArray.size e
    have := frm_size (rec := ⟨#[97]⟩) (by decide)
    have h0 : bs0.size = 0 := rfl
    omega
  have hone : ff (crashB m5 []) (fnB nx 1) = some (frm ⟨#[97]⟩, bs0) := by
    rw [hff, hcur, Option.bind_some, afterP, hkp, if_neg hne]
  have hnone : ∀ x, x ≠ fnB nx 1 → ff (crashB m5 []) x = none := fun x hx => by rw [hff, hoth x hx]; rfl
  have x06 : Ext h h6 := W5.ext.more md6 fun c hc => (W5.fresh c hc).1
  have hx5 := W5.ext.size
  refine openR_ok (a := 1) (k := 1) (Rc := fun _ => [⟨#[97]⟩]) E B6 x06 (fun c hc => by have := s6 c hc; omega) (calm_crash _ _) (by have := wt_crash (m := m5) (keep := []); omega) (by decide) (by decide) (fun n h1 _ => ?_) (fun n h1 h2 => ?_) fun h7 lg7 s7 W7 x7 _ v7 _ => ⟨_, s7, _, rfl, ?_⟩
  · by_cases hn : n = 1
    · subst hn; rw [hone]; simp
    · rw [hnone _ (fun e => hn (fnB_inj e))]; simp; omega
  · have hn : n = 1 := by omega
    subst hn
    refine ⟨_, hone, ?_⟩
    have := scan_wraps (rs := [bl ⟨#[97]⟩]) (fun r hr => by rw [List.mem_singleton.1 hr]; decide) (t := []) next_nil
    rw [app_nil]
    simpa [frm, bl_strL, wraps] using this
  · have l2 : s2.len = 0 := v2.len
    have l7 : s7.len = 1 := v7.len
    refine PIf.yes rfl (PIf.yes (by rw [l2]; rfl) (PIf.yes rfl (PIf.yes rfl (PIf.yes rfl (PIf.yes rfl (PIf.yes (by rw [l7]; rfl) ?_))))))
    refine v7.idx (i := 0) (x := ⟨#[97]⟩) rfl fun a _ c => ?_
    refine LoadS.mk c.str ?_
    have e : sEq (⟨#[97]⟩ : ByteArray) ⟨#[97]⟩ = true := by rw [sEq_iff]; exact decide_eq_true rfl
    rw [e]
    exact H h7 W7.ext
end Go.Lf.G

/-
  The law WalDrops (chapter 4) over its formula.
-/
set_option maxRecDepth 100000
set_option linter.unusedVariables false
set_option linter.unusedSimpArgs false
namespace Go.Lf.G
open Go

theorem fn_head {n : Nat} (hn : n ≤ 99999999) : (fnB nx n).size = 9 ∧ sAt (fnB nx n) 0 = 120 := by
  refine ⟨by rw [fnB_size hn]; rfl, ?_⟩
  have : (bl (fnB nx n))[0]? = some (120 : UInt8) := by rw [fnB_bl]; rfl
  exact sAt_nat (i := 0) this
/-- segments 1 to i hold a record each; nothing else is there -/
structure Each (m : Bx) (l : List ByteArray) (i : Nat) : Prop where
  there : ∀ n x, 1 ≤ n → n ≤ i → l[n - 1]? = some x → ff m (fnB nx n) = some (frm x, bs0)
  none : ∀ x, (∀ n : Nat, 1 ≤ n → n ≤ i → x ≠ fnB nx n) → ff m x = none
theorem scan_frm {x : ByteArray} (h : x.size ≤ 1048576) : Scan (bl (frm x ++ bs0)) ([x].map bl) := by
  have := scan_wraps (rs := [bl x]) (fun r hr => by rw [List.mem_singleton.1 hr, bl_size]; exact h) (t := []) next_nil
  rw [app_nil]
  simpa [frm, bl_strL, wraps] using this
theorem flat_drop {l : List ByteArray} : ∀ (k f : Nat), f + k = l.length → (List.range' (f + 1) k).flatMap (fun n => (l[n - 1]?).toList) = l.drop f
  | 0, f, h => by simp; omega
  | k + 1, f, h => by
    have hf : f < l.length := by omega
    rw [List.range'_succ, List.flatMap_cons, flat_drop k (f + 1) (by omega)]
    rw [List.drop_eq_getElem_cons hf]
    simp [hf]

theorem WalDrops_ok {A : Amb} {h : Heap} {recs : Sl} {l : List ByteArray} {upto : Int} {other : ByteArray} {R : Value → Heap → Prop} (E : Evn h) (v : View StrE h recs l) (hl : l.length ≤ 1099511627776) (hs : ∀ x ∈ l, x.size ≤ 1048576) (hup : -9223372036854775808 ≤ upto ∧ upto ≤ 9223372036854775807)
    (H : ∀ h', Ext h h' → R (.bool true) h') : HCalls A P f_wherrylaw04_WalDrops #[.slice recs.p recs.len recs.cap, .int .i64 upto, .string other] h R := by
  refine ok_wherrylaw04_WalDrops ?_
  unfold F_wherrylaw04_WalDrops
  refine awake04_ok E fun h1 x1 => ⟨_, rfl, PIf.no rfl ?_⟩
  refine bNew_ok fun b h2 S B x2 hS => ⟨_, rfl, ?_⟩
  have x12 := x1.trans x2
  have hx1 := x1.size
  have ka : ∀ n, 1 ≤ n → n ≤ 99999999 → ((ff newB (fnB nx n)).isSome = true ↔ 1 ≤ n ∧ n < 1 + 0) := fun n h1 _ => by rw [ff_new]; simp; omega
  refine openR_ok (h := h) (a := 1) (k := 0) (Rc := fun _ => []) E B x12 (fun c hc => by have := hS c hc; omega) calm_new (by simp [newB, wtF]) (by decide) (by decide) ka (fun n h1 h2 => by omega) fun h3 lg s3 W3 x3 _ v3 _ => ⟨_, s3, _, rfl, ?_⟩
  rw [if_pos rfl] at W3
  rw [v.len]
  refine Join.mk fun K hK => PIf.no rfl (hK _ _ ?_)
  refine PIf.intro (fun q => H h3 W3.ext) (fun q => ?_)
  have h30 : l.length ≤ 30 := by simp at q; omega
  refine Loop.rule (fun mm x hh => ∃ (i : Nat) (S : Nat → Prop) (m : Bx), x = ((i : Int), ()) ∧ Lw h lg b nx hh S m (i + 1) false ∧ Calm m ∧ Each m l i ∧ wtF m.files ≤ i * 1048600 ∧ i ≤ l.length ∧ mm = l.length - i) ?_
    ⟨0, S, newB, rfl, W3, calm_new, ⟨fun n x h1 h2 => by omega, fun x _ => rfl⟩, by simp [newB, wtF], Nat.zero_le _, rfl⟩
  clear W3 v3 x3 ka B hS x2 x12 hx1 x1 q
  rintro K1 mm _ hh ⟨i, S, m, rfl, W, c, Ea, hw, hi, rfl⟩ hK1
  have himul : i * 1048600 ≤ 30 * 1048600 := Nat.mul_le_mul_right _ (by omega)
  refine PIf.intro (fun hq => ?_) (fun hq => ?_)
  · have hil : i < l.length := by simpa using hq
    obtain ⟨w, hwi⟩ : ∃ w, l[i]? = some w := ⟨_, List.getElem?_eq_getElem hil⟩
    have hws := hs w (List.mem_of_getElem? hwi)
    rw [← v.len]
    refine (v.ext W.ext).idx hwi fun a _ cc => ?_
    refine LoadS.mk cc.str ?_
    have hnone : ff m (fnB nx (i + 1)) = none := Ea.none _ fun n n1 n2 e => by have := fnB_inj e; omega
    refine W.append E c (by decide) (by omega) hws (by omega) fun h6 S6 m6 W6 c6 f6 w6 md6 s6 => ⟨_, rfl, PIf.no rfl ?_⟩
    have hcur : ff m6 (fnB nx (i + 1)) = some (bs0, frm w) := by rw [f6, if_pos rfl, hnone]; simp [nil_app]
    refine W6.rotate E c6 (by decide) (by omega) (by rw [hcur]; rfl) fun h7 m7 W7 c7 f7 w7 md7 => ⟨_, _, rfl, PIf.no rfl ?_⟩
    dsimp only
    rw [wrap_succ (by omega)]
    refine hK1 (l.length - (i + 1)) _ _ (by omega) ⟨i + 1, S6, m7, rfl, W7, c7, ⟨fun n x n1 n2 hx => ?_, fun x hx => ?_⟩, by omega, hil, rfl⟩
    · by_cases hn : n = i + 1
      · subst hn
        have : w = x := by
          have e : i + 1 - 1 = i := by omega
          rw [e, hwi] at hx
          exact Option.some.inj hx
        subst this
        rw [f7, if_pos rfl, hcur]
        simp [nil_app]
      · rw [f7, if_neg (fun e => hn (fnB_inj e)), f6, if_neg (fun e => hn (fnB_inj e))]
        exact Ea.there n x n1 (by omega) hx
    · rw [f7, if_neg (hx (i + 1) (by omega) (by omega)), f6, if_neg (hx (i + 1) (by omega) (by omega))]
      exact Ea.none x fun n n1 n2 => hx n n1 (by omega)
  · have hil : i = l.length := by simp at hq; omega
    subst hil
    have hy : (⟨#[121]⟩ : ByteArray).size = 1 := rfl
    refine bAppend_ok W.box (by omega) fun h8 S8 B8 m8 s8 => ⟨_, rfl, ?_⟩
    have hwt8 := wt_append W.box.good other ⟨#[121]⟩
    have W8 : Lw h lg b nx h8 S8 (appendB m other ⟨#[121]⟩).2 (l.length + 1) false := W.upd B8 (W.log.mod m8 W.nS) (m8.weak fun c _ hc => .inl hc) fun c hc => (s8 c hc).imp id fun h => ⟨h, by have := blk_lt W.log; omega⟩
    have c8 := calm_append c other ⟨#[121]⟩
    have hw9 : wtF (appendB m other ⟨#[121]⟩).2.files ≤ 1073741824 := by omega
    have hwrap : IntKind.wrap .i64 (((l.length : Nat) : Int) + (1 : Int)) = ((l.length + 1 : Nat) : Int) := wrap_succ (by omega)
    refine lDrop_ok (E.ext W8.ext) (fun h' x => W8.env E x) W8.log W8.box c8 W8.nS (by decide) hw9 (fun hge => ⟨_, rfl, ?_⟩) (fun hlt h9 S9 m9 B9 c9 md9 s9 w9 f9 g9 => ⟨_, rfl, ?_⟩)
    · rw [hwrap]
      exact PIf.yes (by simp; omega) (H h8 W8.ext)
    · rw [hwrap]
      refine PIf.no (by simp; omega) ?_
      have x09 : Ext h h9 := W8.ext.more md9 fun c hc => (W8.fresh c hc).1
      have fr9 : ∀ c, S9 c → h.size ≤ c := fun c hc => (W8.fresh c (s9 c hc)).1
      by_cases wild : other.size = 9 ∧ sAt other 0 = 120
      · -- it may be a segment's name: whatever is told, true is told
        refine Open_ok (E.ext x09) B9 c9.1 (by decide) (by decide) (Nat.le_trans w9 hw9) (fun h' ll SL hll x => ⟨none, ⟨none, 0, 0⟩, _, rfl, ?_⟩) (fun h' ll lg' sl SL hll x _ _ _ _ => ⟨_, sl, _, rfl, ?_⟩)
        all_goals
          refine Join.mk fun K2 hK2 => PIf.yes (by simp [wild.1]) ⟨⟨by omega, by rw [wild.1]; decide⟩, hK2 _ _ (PIf.yes (by rw [wild.2]; rfl) (H h' (x09.trans x)))⟩
      · have hno : ∀ n, n ≤ 99999999 → other ≠ fnB nx n := fun n hn e => wild (by rw [e]; exact fn_head hn)
        obtain ⟨fr, hfr⟩ : ∃ fr : Nat, (if (0 : Int) > upto then 0 else upto) = (fr : Int) := ⟨(if (0 : Int) > upto then 0 else upto).toNat, by split <;> omega⟩
        have hfl : fr ≤ l.length := by split at hfr <;> omega
        have hfu : ∀ n : Nat, 1 ≤ n → ((n : Int) ≤ upto ↔ n ≤ fr) := fun n n1 => by split at hfr <;> omega
        have a8 : ∀ x, x ≠ other → ff (appendB m other ⟨#[121]⟩).2 x = ff m x := fun x hx => by
          cases hb : badName other with
          | true => unfold appendB; rw [if_neg (by simp [c.1]), if_pos hb]
          | false => rw [(ff_append c.goes hb).2, if_neg hx]
        have seg : ∀ n, 1 ≤ n → n ≤ 99999999 → ff m9 (fnB nx n) = if n ≤ fr then none else if n ≤ l.length then (l[n - 1]?).map fun x => (frm x, bs0) else none := fun n n1 n9 => by
          by_cases hn : n ≤ fr
          · rw [if_pos hn]
            exact f9 n n1 n9 ((hfu n n1).2 hn)
          · rw [if_neg hn, g9 (fnB nx n) fun k k1 _ hk e => hn (by rw [fnB_inj e]; exact (hfu k k1).1 hk), a8 _ (hno n n9).symm]
            by_cases hnl : n ≤ l.length
            · rw [if_pos hnl]
              have hg : l[n - 1]? = some l[n - 1] := List.getElem?_eq_getElem (by omega)
              rw [hg, Ea.there n _ n1 hnl hg]; rfl
            · rw [if_neg hnl]
              exact Ea.none _ fun k k1 k2 e => by have := fnB_inj e; omega
        refine openR_ok (h := h) (a := fr + 1) (k := l.length - fr) (Rc := fun n => (l[n - 1]?).toList) E B9 x09 fr9 c9 (Nat.le_trans w9 hw9) (by omega) (by omega) (fun n n1 n9 => ?_) (fun n n1 n2 => ?_) fun h10 lg' s10 W10 x10 _ v10 _ => ⟨_, s10, _, rfl, ?_⟩
        · rw [seg n n1 n9]
          by_cases hn : n ≤ fr
          · rw [if_pos hn]; simp; omega
          · rw [if_neg hn]
            by_cases hnl : n ≤ l.length
            · rw [if_pos hnl, List.getElem?_eq_getElem (by omega)]; simp; omega
            · rw [if_neg hnl]; simp; omega
        · have hg : l[n - 1]? = some l[n - 1] := List.getElem?_eq_getElem (by omega)
          refine ⟨_, by rw [seg n (by omega) (by omega), if_neg (by omega), if_pos (by omega), hg]; rfl, ?_⟩
          rw [hg]
          exact scan_frm (hs _ (List.getElem_mem _))
        · rw [flat_drop _ _ (by omega)] at v10
          have made9 : badName other = false → readB m9 other = (⟨#[121]⟩, 0) := fun hb => by
            have h1 : ff m other = none := Ea.none _ fun n n1 n2 => hno n (by omega)
            rw [ff_read c9.1, g9 other fun k _ k9 _ => hno k k9, (ff_append c.goes hb).2, if_pos rfl, h1]
            simp [nil_app]
          have tail : ∀ K2 : Bool × Unit → Heap → Prop, (K2 (false, ()) h10 → True) → True := fun _ _ => trivial
          refine Join.mk fun K2 hK2 => ?_
          have go : K2 (false, ()) h10 := by
            refine hK2 _ _ (PIf.no rfl ?_)
            refine bRead_ok W10.box ⟨_, _, rfl, PIf.yes rfl (PIf.yes rfl ?_)⟩
            rw [hfr]
            refine ⟨⟨by omega, by omega⟩, ?_⟩
            have e1 : ((fr : Int)).toNat = fr := by omega
            rw [e1]
            have vs := (v.ext (x09.trans x10)).sub (lo := fr) (hi := l.length) hfl (Nat.le_refl _)
            rw [List.take_length] at vs
            refine Same_ok (b := ⟨slOff recs.p recs.cap fr 1, l.length - fr, recs.cap - fr⟩) v10 vs (by simp; omega) ⟨_, rfl, ?_⟩
            rw [decide_eq_true rfl]
            refine PIf.yes rfl ?_
            cases hb : badName other with
            | true =>
              have e2 : (appendB m other ⟨#[121]⟩).1 = 1 := by unfold appendB; rw [if_neg (by simp [c.1]), if_pos hb]
              rw [e2]
              exact PIf.yes rfl (H h10 (x09.trans x10))
            | false =>
              rw [(ff_append c.goes hb).1, made9 hb]
              refine PIf.no rfl (PIf.yes rfl ?_)
              have e : sEq (⟨#[121]⟩ : ByteArray) ⟨#[121]⟩ = true := by rw [sEq_iff]; exact decide_eq_true rfl
              dsimp only
              rw [e]
              exact H h10 (x09.trans x10)
          refine PIf.intro (fun q => ?_) (fun q => go)
          have q : other.size = 9 := by simp at q; omega
          refine ⟨⟨by omega, by rw [q]; decide⟩, ?_⟩
          have : (sAt other 0 == (120 : Int)) = false := by
            rw [Bool.eq_false_iff]; intro hc
            exact wild ⟨q, by simpa using hc⟩
          rw [this]
          exact go
end Go.Lf.G

