/-
  Contracts: the document's box (chapter 3).
-/
import Derived.Test.YtnphbdfmdboniaaLfS3
set_option maxRecDepth 100000
set_option linter.unusedVariables false
set_option linter.unusedSimpArgs false
namespace Go.Lf.G
open Go

theorem app_file : appB P t_sl_wherryref03_File t_wherryref03_File FiE.w 48 = true := by kernel_rfl
theorem app_str : appB P t_sl_string t_string StrE.w 16 = true := by kernel_rfl
theorem ne_filebox : t_wherryref03_File ≠ t_wherryref03_Box := by decide
theorem ne_strbox : t_string ≠ t_wherryref03_Box := by decide

structure RefAt (h : Heap) (b : Nat) (s : Sl) (m : Bx) : Prop where
  head : h[b]? = some (.cells #[.slice s.p s.len s.cap, .int .i64 m.fuel, .bool m.down] t_wherryref03_Box (0, 0))
  own : Own FiE t_wherryref03_File h s m.files
  good : GoodB m
def footR (b : Nat) (s : Sl) (c : Nat) : Prop := c = b ∨ s.blk = some c
def IsRef (h : Heap) (b : Nat) (S : Nat → Prop) (m : Bx) : Prop := ∃ s, RefAt h b s m ∧ ∀ c, S c ↔ footR b s c
theorem RefAt.ne {h : Heap} {b : Nat} {s : Sl} {m : Bx} (B : RefAt h b s m) : s.blk ≠ some b := B.own.ne B.head ne_filebox
theorem RefAt.mod {h h' : Heap} {b : Nat} {s : Sl} {m : Bx} {T : Nat → Prop} (B : RefAt h b s m) (x : Mod T h h') (hT : ∀ c, footR b s c → ¬ T c) : RefAt h' b s m :=
  ⟨x.blk B.head (hT _ (.inl rfl)), B.own.mod x fun c hc => hT c (.inr hc), B.good⟩
theorem RefAt.lt {h : Heap} {b : Nat} {s : Sl} {m : Bx} (B : RefAt h b s m) {c : Nat} (hc : footR b s c) : c < h.size := by
  rcases hc with rfl | hc
  · exact blk_lt B.head
  · exact B.own.lt hc
theorem IsRef.lt {h : Heap} {b : Nat} {S : Nat → Prop} {m : Bx} (B : IsRef h b S m) {c : Nat} (hc : S c) : c < h.size := by
  obtain ⟨s, B, hS⟩ := B; exact B.lt ((hS c).1 hc)
theorem IsRef.good {h : Heap} {b : Nat} {S : Nat → Prop} {m : Bx} (B : IsRef h b S m) : GoodB m := by
  obtain ⟨s, B, hS⟩ := B; exact B.good
theorem IsRef.mod {h h' : Heap} {b : Nat} {S T : Nat → Prop} {m : Bx} (B : IsRef h b S m) (x : Mod T h h') (hT : ∀ c, S c → ¬ T c) : IsRef h' b S m := by
  obtain ⟨s, B, hS⟩ := B; exact ⟨s, B.mod x fun c hc => hT c ((hS c).2 hc), hS⟩
theorem IsRef.ext {h h' : Heap} {b : Nat} {S : Nat → Prop} {m : Bx} (B : IsRef h b S m) (x : Ext h h') : IsRef h' b S m := B.mod x fun _ _ h => h
theorem RefAt.hd {h h' : Heap} {b : Nat} {s : Sl} {m m' : Bx} (B : RefAt h b s m) (hb : h'[b]? = some (.cells #[.slice s.p s.len s.cap, .int .i64 m'.fuel, .bool m'.down] t_wherryref03_Box (0, 0))) (x : Mod (· = b) h h') (hf : m'.files = m.files) (g : GoodB m') : RefAt h' b s m' :=
  ⟨hb, by rw [hf]; exact B.own.mod x fun c hc e => B.ne (e ▸ hc), g⟩

theorem Compare_ok {A : Amb} {h : Heap} {a b : ByteArray} {R : Value → Heap → Prop} (H : ∀ n : Int, decide (n < 0) = sLt a b → R (.int .i64 n) h) : HCalls A P f_strings_Compare #[.string a, .string b] h R := by
  intro n
  refine Calls.mono (Proofs.Any.strings_Compare Proofs.Try.lays106 a b (A.at h n)) ?_
  rintro e w' ⟨rfl, rfl⟩
  exact ⟨_, rfl, h, n, rfl, H _ (sLt_cmp a b)⟩

theorem rburn_ok {A : Amb} {h : Heap} {b : Nat} {s : Sl} {m : Bx} (B : RefAt h b s m) {R : Value → Heap → Prop}
    (H1 : m.fuel = 0 → ∀ h', RefAt h' b s (offB m) → Mod (· = b) h h' → R (.bool false) h')
    (H2 : m.fuel ≠ 0 → ∀ h', RefAt h' b s (tickB m) → Mod (· = b) h h' → h'.size = h.size → R (.bool true) h') : HCalls A P f_wherryref03_Box_burn #[ptrV b] h R := by
  have lo := B.good.lo
  have hi := B.good.hi
  obtain ⟨e1, e2, e3⟩ := tick_fuel m
  refine ok_wherryref03_Box_burn ?_
  unfold F_wherryref03_Box_burn
  refine atI (LoadI.mk (hget_lit1 B.head rfl) ?_)
  refine PIf.intro (fun hq => ?_) (fun hq => ?_)
  · refine atI (Store.mk1 B.head (by simp) fun h1 hb1 m1 hs1 => ?_)
    exact H1 (by simpa using hq) h1 (B.hd (m' := offB m) (by simpa [offB] using hb1) m1 rfl B.good.off) m1
  · have hq : m.fuel ≠ 0 := by simpa using hq
    have H2 := H2 hq
    refine Join.mk fun K hK => ?_
    refine atI (LoadI.mk (hget_lit1 B.head rfl) ?_)
    refine PIf.intro (fun hq => ?_) (fun hq => ?_)
    · have hp : m.fuel > 0 := by simpa using hq
      refine atI (LoadI.mk (hget_lit1 B.head rfl) (atI (Store.mk1 B.head (by simp) fun h1 hb1 m1 hs1 => hK _ _ ?_)))
      rw [wrap_i64 (by omega) (by omega)] at hb1
      refine H2 h1 (B.hd (m' := tickB m) ?_ m1 e3 (goodB_tick B.good)) m1 hs1
      rw [e1, e2]; unfold burnF; rw [if_pos hp]; simpa using hb1
    · have hp : ¬ m.fuel > 0 := by simpa using hq
      refine hK _ _ (H2 h (B.hd (m' := tickB m) ?_ Mod.refl e3 (goodB_tick B.good)) Mod.refl rfl)
      rw [e1, e2]; unfold burnF; rw [if_neg hp]; exact B.head

theorem rAt_ok {A : Amb} {h : Heap} {b : Nat} {s : Sl} {m : Bx} {name : ByteArray} {R : Value → Heap → Prop} (B : RefAt h b s m) (H : R (.tuple #[.int .i64 (atF name m.files : Int), .bool (thereF name m.files)]) h) :
    HCalls A P f_wherryref03_Box_at #[ptrV b, .string name] h R := by
  have hlen : m.files.length ≤ 1099511627776 := by have := wtF_len m.files; have := B.good.wt; omega
  have hle := atF_le name m.files
  have V := B.own.view
  refine ok_wherryref03_Box_at ?_
  unfold F_wherryref03_Box_at
  refine Loop.rule (fun q x hh => ∃ i : Nat, x = ((i : Int), ()) ∧ hh = h ∧ q = m.files.length - i ∧ i ≤ atF name m.files) ?_ ⟨0, rfl, rfl, rfl, by omega⟩
  rintro K q _ hh ⟨i, rfl, e, rfl, hi⟩ hK
  subst e
  refine Join.mk fun K1 hK1 => ?_
  have hend : i = atF name m.files → K1 (false, ()) hh := fun e => hK1 _ _ (PIf.no rfl (atI (LoadL.mk (hget_lit B.head rfl) (by
    subst e
    refine PIf.intro (fun hq => ?_) (fun hq => ?_)
    · have hil : atF name m.files < m.files.length := by simpa [V.len] using hq
      have hg := List.getElem?_eq_getElem hil
      refine atI (LoadL.mk (hget_lit B.head rfl) (V.idx hg fun a _ c => LoadS.mk c.fi.1 ?_))
      have e : thereF name m.files = sEq (m.files[atF name m.files]).name name := by unfold thereF; rw [hg, sEq_iff]
      rw [← e]; exact H
    · have hil : m.files.length ≤ atF name m.files := by simpa [V.len] using hq
      have e : thereF name m.files = false := by unfold thereF; rw [List.getElem?_eq_none hil]
      rw [← e]; exact H))))
  refine atI (LoadL.mk (hget_lit B.head rfl) ?_)
  refine PIf.intro (fun hq => ?_) (fun hq => ?_)
  · have hil : i < m.files.length := by simpa [V.len] using hq
    have hg := List.getElem?_eq_getElem hil
    refine atI (LoadL.mk (hget_lit B.head rfl) (V.idx hg fun a _ c => LoadS.mk c.fi.1 ?_))
    refine Compare_ok fun n hn => ⟨_, rfl, ?_⟩
    rw [hn]
    by_cases hlt : i < atF name m.files
    · rw [atF_lt hlt hg]
      exact hK1 _ _ (PIf.yes rfl (hK _ _ _ (by omega) ⟨i + 1, by rw [wrap_succ (by omega)], rfl, rfl, hlt⟩))
    · have e : i = atF name m.files := by omega
      have h1 : sLt (m.files[i]).name name = false := by subst e; exact atF_ge hg
      rw [h1]
      exact hend e
  · have hil : m.files.length ≤ i := by simpa [V.len] using hq
    exact hend (by omega)

theorem ins_get {x : Fi} : ∀ {l : List Fi}, (insF x l)[atF x.name l]? = some x ∧ atF x.name (insF x l) = atF x.name l
  | [] => ⟨rfl, by show atF x.name [x] = _; rw [atF_cons, sLt_irrefl]; simp [atF]⟩
  | q :: l => by
    have ih := ins_get (x := x) (l := l)
    unfold insF
    rw [atF_cons]
    split
    · rename_i hq
      rw [atF_cons, if_pos hq]
      exact ⟨by simpa using ih.1, by rw [ih.2]⟩
    · rw [atF_cons, sLt_irrefl]; exact ⟨rfl, rfl⟩
theorem have_at {name : ByteArray} {l : List Fi} (s : SortedF l) : ∃ f, (haveF name l)[atF name l]? = some f ∧ f.name = name ∧ atF name (haveF name l) = atF name l := by
  unfold haveF
  rcases atF_find (k := name) s with ⟨h1, h2⟩ | ⟨f, h1, h2, h3⟩
  · rw [h1]
    have := ins_get (x := ⟨name, bs0, bs0⟩) (l := l)
    exact ⟨_, this.1, rfl, this.2⟩
  · rw [h1]
    exact ⟨f, h3, (findF_some h1).1, rfl⟩

theorem bad_eq (n : ByteArray) : badName n = (decide ((n.size : Int) < (1 : Int)) || decide ((n.size : Int) > (32 : Int))) := by
  unfold badName
  have h1 : decide (n = bs0) = decide ((n.size : Int) < (1 : Int)) := by
    rw [decide_eq_decide]
    constructor
    · rintro rfl; simp [sz0]
    · intro h
      have : n.size = 0 := by omega
      rw [ByteArray.ext_iff]
      exact Array.eq_empty_of_size_eq_zero this
  have h2 : decide (n.size > 32) = decide ((n.size : Int) > (32 : Int)) := by rw [decide_eq_decide]; omega
  rw [h1, h2]

theorem rAppend_ok {A : Amb} {h : Heap} {b : Nat} {S : Nat → Prop} {m : Bx} {name data : ByteArray} {R : Value → Heap → Prop} (B : IsRef h b S m) (hw : wtF m.files + data.size + 1 ≤ 1099511627776)
    (H : ∀ h' S', IsRef h' b S' (appendB m name data).2 → Mod S h h' → (∀ c, S' c → S c ∨ h.size ≤ c) → R (.int .i64 (appendB m name data).1) h') : HCalls A P f_wherryref03_Box_Append #[ptrV b, .string name, .string data] h R := by
  have hgood := B.good.append (name := name) (data := data) hw
  obtain ⟨s, B, hS⟩ := B
  refine ok_wherryref03_Box_Append ?_
  unfold F_wherryref03_Box_Append
  unfold appendB at H hgood
  have hmS : ∀ {h1 : Heap}, Mod (footR b s) h h1 → Mod S h h1 := fun m1 => m1.weak fun c _ hc => (hS c).2 hc
  have hlen : m.files.length ≤ 1099511627776 := by have := wtF_len m.files; have := B.good.wt; omega
  refine atI (LoadB.mk (hget_lit1 B.head rfl) ?_)
  refine PIf.intro (fun hd => ?_) (fun hd => ?_)
  · rw [if_pos hd] at H; exact H h S ⟨s, B, hS⟩ Mod.refl (fun c hc => .inl hc)
  rw [if_neg (by simp [hd])] at H hgood
  refine Join.mk fun K hK => ?_
  have key : K (badName name, ()) h := hK _ _ (by
    refine PIf.intro (fun hn => ?_) (fun hn => ?_)
    · rw [if_pos hn] at H; exact H h S ⟨s, B, hS⟩ Mod.refl (fun c hc => .inl hc)
    rw [if_neg (by simpa using hn)] at H hgood
    refine rburn_ok B (fun hz h1 B1 m1 => ⟨_, rfl, ?_⟩) (fun hz h1 B1 m1 hs1 => ⟨_, rfl, ?_⟩)
    · rw [if_pos hz] at H
      exact PIf.yes rfl (H h1 S ⟨s, B1, hS⟩ (hmS (m1.weak fun c _ hc => .inl hc)) (fun c hc => .inl hc))
    rw [if_neg hz] at H hgood
    have e3 := (tick_fuel m).2.2
    refine PIf.no rfl ?_
    refine rAt_ok B1 ⟨_, _, rfl, ?_⟩
    rw [e3]
    have hle := atF_le name m.files
    obtain ⟨f, hf1, hf2, hf3⟩ := have_at (name := name) B.good.sorted
    obtain ⟨hs2, hw2, _⟩ := haveF_spec (name := name) B.good.sorted
    refine Join.mk fun K1 hK1 => ?_
    have m01 : Mod S h h1 := hmS (m1.weak fun c _ hc => .inl hc)
    -- the data
    have fin : ∀ h2 s2, h2[b]? = some (.cells #[.slice s2.p s2.len s2.cap, .int .i64 (tickB m).fuel, .bool (tickB m).down] t_wherryref03_Box (0, 0)) → Own FiE t_wherryref03_File h2 s2 (haveF name m.files) → Mod S h h2 → (∀ c, s2.blk = some c → S c ∨ h.size ≤ c) → K1 () h2 := fun h2 s2 hb2 o2 m2 f2 => hK1 _ _ (by
      refine atI (LoadL.mk (hget_lit hb2 rfl) ?_)
      refine o2.view.idx (i := atF name m.files) hf1 fun a ha c => LoadS.mk c.fi.2.2 ⟨?_, ?_⟩
      · have := wtF_mem (List.mem_of_getElem? hf1)
        rw [max_i64]; omega
      · refine o2.view.idx (i := atF name m.files) hf1 fun a ha _ => ?_
        refine o2.store (i := atF name m.files) (j := 2) (x' := addF data f) (v := .string (f.soft ++ data)) hf1 rfl (by decide) (fun h3 o3 m3 hs3 => ?_) a ha
        have hub := upd_at (k := name) (g := addF data) (l := haveF name m.files) (f := f) hs2 (by rw [hf3]; exact hf1) hf2
        rw [hf3] at hub
        rw [hub] at o3
        have hbn : s2.blk ≠ some b := o2.ne hb2 ne_filebox
        refine H h3 (footR b s2) ⟨s2, ⟨m3.blk hb2 hbn, o3, hgood⟩, fun _ => Iff.rfl⟩ ?_ ?_
        · exact m2.then (m3.weak fun c _ hc => f2 c hc)
        · rintro c (rfl | hc)
          · exact .inl ((hS _).2 (.inl rfl))
          · exact f2 c hc)
    refine PIf.intro (fun ht => ?_) (fun ht => ?_)
    · have ht : thereF name m.files = false := by simpa using ht
      have hfn : findF name m.files = none := by
        rcases atF_find (k := name) B.good.sorted with ⟨h1, _⟩ | ⟨f, _, h2, _⟩
        · exact h1
        · rw [ht] at h2; cases h2
      have hhave : haveF name m.files = insF ⟨name, bs0, bs0⟩ m.files := by unfold haveF; rw [hfn]; rfl
      have o1 : Own FiE t_wherryref03_File h1 s m.files := by have := B1.own; rwa [e3] at this
      have hcap := o1.view.cap
      have hsl := o1.len
      refine atI (LoadL.mk (hget_lit B1.head rfl) ⟨⟨by omega, by omega⟩, ?_⟩)
      have hcat : (((atF name m.files : Nat) : Int)).toNat = atF name m.files := by omega
      rw [hcat]
      refine append_own (E := FiE) (s := ⟨none, 0, 0⟩) (l := []) (src := ⟨slOff s.p s.cap 0 3, atF name m.files - 0, s.cap - 0⟩) app_file Own.nil (o1.view.sub (lo := 0) (hi := atF name m.files) (by omega) hle) (by simp; omega) (by simp [maxLen]; omega) fun s2 h2 o2 m2 bl2 _ => ?_
      have x2 : Ext h1 h2 := m2.weak (by simp [Sl.blk])
      have f2 : ∀ c, s2.blk = some c → h1.size ≤ c := fun c hc => (bl2 c hc).elim (fun h => by simp [Sl.blk] at h) id
      refine New.append1 (E := FiE) (x := ⟨name, bs0, bs0⟩) rfl app_file o2 (by simp; omega) (by simp [maxLen]; omega) fun s3 h3 o3 m3 bl3 _ => ?_
      have f3 : ∀ c, s3.blk = some c → h1.size ≤ c := fun c hc => (bl3 c hc).elim (f2 c) fun h => Nat.le_trans x2.size h
      have x3 : Ext h1 h3 := x2.then (m3.weak fun c _ hc => .inr (f2 c hc))
      have hb3 := x3.blk B1.head (by simp)
      have o13 := o1.ext x3
      refine atI (LoadL.mk (hget_lit hb3 rfl) ⟨⟨by omega, by omega⟩, ?_⟩)
      have vs := o13.view.sub (lo := atF name m.files) (hi := m.files.length) hle (Nat.le_refl _)
      rw [← hsl] at vs
      refine append_own (E := FiE) (s := s3) (src := ⟨slOff s.p s.cap (atF name m.files) 3, s.len - atF name m.files, s.cap - atF name m.files⟩) app_file o3 vs ?_ ?_ fun s4 h4 o4 m4 bl4 _ => ?_
      · simp; omega
      · simp [maxLen]; omega
      have f4 : ∀ c, s4.blk = some c → h1.size ≤ c := fun c hc => (bl4 c hc).elim (f3 c) fun h => Nat.le_trans x3.size h
      have x4 : Ext h1 h4 := x3.then (m4.weak fun c _ hc => .inr (f3 c hc))
      have hb4 := x4.blk B1.head (by simp)
      have hblt := blk_lt B1.head
      refine atI (Store.mk hb4 (by simp) fun h5 hb5 m5 hs5 => ?_)
      refine fin h5 s4 (by simpa using hb5) ?_ ((m01.trans x4.mod).trans (m5.weak fun c _ hc => (hS c).2 (.inl hc))) (fun c hc => .inr (by have := f4 c hc; omega))
      have e : ([] ++ List.drop 0 (List.take (atF name m.files) m.files) ++ [({ name := name, firm := bs0, soft := bs0 } : Fi)]) ++ List.drop (atF name m.files) (List.take s.len m.files) = haveF name m.files := by
        rw [hhave, ← ins_at, hsl, List.take_length]; simp
      rw [e] at o4
      exact o4.mod m5 fun c hc e => by have := f4 c hc; omega
    · have ht : thereF name m.files = true := by simpa using ht
      have hhave : haveF name m.files = m.files := by
        rcases atF_find (k := name) B.good.sorted with ⟨_, h2⟩ | ⟨f, h1, h2, _⟩
        · rw [ht] at h2; cases h2
        · unfold haveF; rw [h1]; rfl
      refine fin h1 s B1.head ?_ m01 (fun c hc => .inl ((hS c).2 (.inr hc)))
      rw [hhave]
      have := B1.own
      rwa [e3] at this)
  rw [bad_eq] at key
  refine PIf.intro (fun hq => ?_) (fun hq => ?_)
  · rw [hq, Bool.true_or] at key; exact key
  · rw [hq, Bool.false_or] at key; exact key

theorem rSync_ok {A : Amb} {h : Heap} {b : Nat} {S : Nat → Prop} {m : Bx} {name : ByteArray} {R : Value → Heap → Prop} (B : IsRef h b S m)
    (H : ∀ h', IsRef h' b S (syncB m name).2 → Mod S h h' → R (.int .i64 (syncB m name).1) h') : HCalls A P f_wherryref03_Box_Sync #[ptrV b, .string name] h R := by
  have hgood := B.good.sync (name := name)
  obtain ⟨s, B, hS⟩ := B
  refine ok_wherryref03_Box_Sync ?_
  unfold F_wherryref03_Box_Sync
  unfold syncB at H hgood
  have hmS : ∀ {h1 : Heap}, Mod (footR b s) h h1 → Mod S h h1 := fun m1 => m1.weak fun c _ hc => (hS c).2 hc
  refine rAt_ok B ⟨_, _, rfl, ?_⟩
  refine atI (LoadB.mk (hget_lit1 B.head rfl) ?_)
  refine PIf.intro (fun hd => ?_) (fun hd => ?_)
  · rw [if_pos hd] at H; exact H h ⟨s, B, hS⟩ Mod.refl
  rw [if_neg (by simp [hd])] at H hgood
  rcases atF_find (k := name) B.good.sorted with ⟨k1, k2⟩ | ⟨f, k1, k2, k3⟩
  · rw [k1] at H
    rw [k2]
    exact PIf.yes rfl (H h ⟨s, B, hS⟩ Mod.refl)
  rw [k2]
  rw [k1, if_neg (by simp)] at H hgood
  refine PIf.no rfl ?_
  refine rburn_ok B (fun hz h1 B1 m1 => ⟨_, rfl, ?_⟩) (fun hz h1 B1 m1 hs1 => ⟨_, rfl, ?_⟩)
  · rw [if_pos hz] at H
    exact PIf.yes rfl (H h1 ⟨s, B1, hS⟩ (hmS (m1.weak fun c _ hc => .inl hc)))
  rw [if_neg hz] at H hgood
  refine PIf.no rfl ?_
  have e3 := (tick_fuel m).2.2
  have o1 : Own FiE t_wherryref03_File h1 s m.files := by have := B1.own; rwa [e3] at this
  refine atI (LoadL.mk (hget_lit B1.head rfl) (o1.view.idx (i := atF name m.files) k3 fun a ha c => LoadS.mk c.fi.2.1 ?_))
  refine atI (LoadL.mk (hget_lit B1.head rfl) (o1.view.idx (i := atF name m.files) k3 fun a2 ha2 c2 => LoadS.mk c2.fi.2.2 ⟨?_, ?_⟩))
  · have h3 := wtF_mem (findF_some k1).2
    have := B.good.wt
    rw [max_i64]; omega
  refine o1.view.idx (i := atF name m.files) k3 fun a3 ha3 _ => ?_
  refine o1.store (i := atF name m.files) (j := 1) (x' := ⟨f.name, f.firm ++ f.soft, f.soft⟩) (v := .string (f.firm ++ f.soft)) k3 rfl (by decide) (fun h2 o2 m2 hs2 => ?_) a3 ha3
  have hb2 := m2.blk B1.head B1.ne
  have k4 : (m.files.set (atF name m.files) ⟨f.name, f.firm ++ f.soft, f.soft⟩)[atF name m.files]? = some ⟨f.name, f.firm ++ f.soft, f.soft⟩ := by
    rw [List.getElem?_set_self (List.getElem?_eq_some_iff.1 k3).1]
  refine atI (LoadL.mk (hget_lit hb2 rfl) ?_)
  refine o2.view.idx (i := atF name m.files) k4 fun a4 ha4 _ => ?_
  refine o2.store (i := atF name m.files) (j := 2) (x' := firmF f) (v := .string bs0) k4 rfl (by decide) (fun h3 o3 m3 hs3 => ?_) a4 ha4
  rw [List.set_set, upd_at (g := firmF) B.good.sorted k3 (findF_some k1).1] at o3
  refine H h3 ⟨s, ⟨m3.blk hb2 (o2.ne hb2 ne_filebox), o3, hgood⟩, hS⟩ (hmS ?_)
  exact (m1.weak fun c _ hc => .inl hc).trans ((m2.trans m3).weak fun c _ hc => .inr hc)

theorem rRead_ok {A : Amb} {h : Heap} {b : Nat} {S : Nat → Prop} {m : Bx} {name : ByteArray} {R : Value → Heap → Prop} (B : IsRef h b S m)
    (H : R (.tuple #[.string (readB m name).1, .int .i64 (readB m name).2]) h) : HCalls A P f_wherryref03_Box_Read #[ptrV b, .string name] h R := by
  obtain ⟨s, B, hS⟩ := B
  refine ok_wherryref03_Box_Read ?_
  unfold F_wherryref03_Box_Read
  unfold readB at H
  refine rAt_ok B ⟨_, _, rfl, ?_⟩
  refine atI (LoadB.mk (hget_lit1 B.head rfl) ?_)
  refine PIf.intro (fun hd => ?_) (fun hd => ?_)
  · rw [if_pos hd] at H; exact H
  rw [if_neg (by simp [hd])] at H
  rcases atF_find (k := name) B.good.sorted with ⟨k1, k2⟩ | ⟨f, k1, k2, k3⟩
  · rw [k1] at H
    rw [k2]
    exact PIf.yes rfl H
  rw [k2]
  rw [k1] at H
  refine PIf.no rfl ?_
  have V := B.own.view
  refine atI (LoadL.mk (hget_lit B.head rfl) (V.idx (i := atF name m.files) k3 fun a ha c => LoadS.mk c.fi.2.1 ?_))
  refine atI (LoadL.mk (hget_lit B.head rfl) (V.idx (i := atF name m.files) k3 fun a2 ha2 c2 => LoadS.mk c2.fi.2.2 ⟨?_, H⟩))
  have h3 := wtF_mem (findF_some k1).2
  have := B.good.wt
  rw [max_i64]; omega

theorem rDelete_ok {A : Amb} {h : Heap} {b : Nat} {S : Nat → Prop} {m : Bx} {name : ByteArray} {R : Value → Heap → Prop} (B : IsRef h b S m)
    (H : ∀ h' S', IsRef h' b S' (deleteB m name).2 → Mod S h h' → (∀ c, S' c → S c ∨ h.size ≤ c) → R (.int .i64 (deleteB m name).1) h') : HCalls A P f_wherryref03_Box_Delete #[ptrV b, .string name] h R := by
  have hgood := B.good.delete (name := name)
  obtain ⟨s, B, hS⟩ := B
  refine ok_wherryref03_Box_Delete ?_
  unfold F_wherryref03_Box_Delete
  unfold deleteB at H hgood
  have hmS : ∀ {h1 : Heap}, Mod (footR b s) h h1 → Mod S h h1 := fun m1 => m1.weak fun c _ hc => (hS c).2 hc
  have hlen : m.files.length ≤ 1099511627776 := by have := wtF_len m.files; have := B.good.wt; omega
  refine rAt_ok B ⟨_, _, rfl, ?_⟩
  refine atI (LoadB.mk (hget_lit1 B.head rfl) ?_)
  refine PIf.intro (fun hd => ?_) (fun hd => ?_)
  · rw [if_pos hd] at H; exact H h S ⟨s, B, hS⟩ Mod.refl (fun c hc => .inl hc)
  rw [if_neg (by simp [hd])] at H hgood
  rcases atF_find (k := name) B.good.sorted with ⟨k1, k2⟩ | ⟨f, k1, k2, k3⟩
  · rw [k1] at H
    rw [k2]
    exact PIf.yes rfl (H h S ⟨s, B, hS⟩ Mod.refl (fun c hc => .inl hc))
  rw [k2]
  rw [k1, if_neg (by simp)] at H hgood
  refine PIf.no rfl ?_
  refine rburn_ok B (fun hz h1 B1 m1 => ⟨_, rfl, ?_⟩) (fun hz h1 B1 m1 hs1 => ⟨_, rfl, ?_⟩)
  · rw [if_pos hz] at H
    exact PIf.yes rfl (H h1 S ⟨s, B1, hS⟩ (hmS (m1.weak fun c _ hc => .inl hc)) (fun c hc => .inl hc))
  rw [if_neg hz] at H hgood
  refine PIf.no rfl ?_
  have e3 := (tick_fuel m).2.2
  have o1 : Own FiE t_wherryref03_File h1 s m.files := by have := B1.own; rwa [e3] at this
  have hil := (List.getElem?_eq_some_iff.1 k3).1
  have hcap := o1.view.cap
  have hsl := o1.len
  refine atI (LoadL.mk (hget_lit B1.head rfl) ⟨⟨by omega, by omega⟩, ?_⟩)
  have hcat : (((atF name m.files : Nat) : Int)).toNat = atF name m.files := by omega
  have hwr : IntKind.wrap .i64 (((atF name m.files : Nat) : Int) + (1 : Int)) = ((atF name m.files + 1 : Nat) : Int) := wrap_succ (by omega)
  have hcat2 : (((atF name m.files + 1 : Nat) : Int)).toNat = atF name m.files + 1 := by omega
  rw [hcat]
  refine append_own (E := FiE) (s := ⟨none, 0, 0⟩) (l := []) (src := ⟨slOff s.p s.cap 0 3, atF name m.files - 0, s.cap - 0⟩) app_file Own.nil (o1.view.sub (lo := 0) (hi := atF name m.files) (by omega) (by omega)) (by simp; omega) (by simp [maxLen]; omega) fun s2 h2 o2 m2 bl2 _ => ?_
  have x2 : Ext h1 h2 := m2.weak (by simp [Sl.blk])
  have f2 : ∀ c, s2.blk = some c → h1.size ≤ c := fun c hc => (bl2 c hc).elim (fun h => by simp [Sl.blk] at h) id
  have hb2 := x2.blk B1.head (by simp)
  have o12 := o1.ext x2
  refine atI (LoadL.mk (hget_lit hb2 rfl) ⟨hget_lit B1.head rfl, ?_⟩)
  rw [hwr, hcat2]
  refine ⟨⟨by omega, by omega⟩, ?_⟩
  have vs := o12.view.sub (lo := atF name m.files + 1) (hi := m.files.length) (by omega) (Nat.le_refl _)
  rw [← hsl] at vs
  refine append_own (E := FiE) (s := s2) (src := ⟨slOff s.p s.cap (atF name m.files + 1) 3, s.len - (atF name m.files + 1), s.cap - (atF name m.files + 1)⟩) app_file o2 vs ?_ ?_ fun s4 h4 o4 m4 bl4 _ => ?_
  · simp; omega
  · simp [maxLen]; omega
  have f4 : ∀ c, s4.blk = some c → h1.size ≤ c := fun c hc => (bl4 c hc).elim (f2 c) fun h => Nat.le_trans x2.size h
  have x4 : Ext h1 h4 := x2.then (m4.weak fun c _ hc => .inr (f2 c hc))
  have hb4 := x4.blk B1.head (by simp)
  have hblt := blk_lt B1.head
  refine atI (Store.mk hb4 (by simp) fun h5 hb5 m5 hs5 => ?_)
  have e : [] ++ List.drop 0 (List.take (atF name m.files) m.files) ++ List.drop (atF name m.files + 1) (List.take s.len m.files) = delF name m.files := by
    rw [← del_at B.good.sorted k3 (findF_some k1).1, hsl, List.take_length]; simp
  rw [e] at o4
  refine H h5 (footR b s4) ⟨s4, ⟨by simpa using hb5, o4.mod m5 fun c hc e => by have := f4 c hc; omega, hgood⟩, fun _ => Iff.rfl⟩ ?_ ?_
  · exact hmS (((m1.weak fun c _ hc => .inl hc).trans x4.mod).trans (m5.weak fun c _ hc => .inl hc))
  · rintro c (rfl | hc)
    · exact .inl ((hS _).2 (.inl rfl))
    · exact .inr (by have := f4 c hc; omega)

theorem rNew_ok {A : Amb} {h : Heap} {R : Value → Heap → Prop} (H : ∀ h', RefAt h' h.size ⟨none, 0, 0⟩ newB → Ext h h' → h'.size = h.size + 1 → R (ptrV h.size) h') : HCalls A P f_wherryref03_New #[] h R := by
  refine ok_wherryref03_New ?_
  unfold F_wherryref03_New
  exact New.mk fun h1 _ hb1 x1 hs1 => H h1 ⟨hb1, Own.nil, goodB_new⟩ x1 hs1

theorem rList_ok {A : Amb} {h : Heap} {b : Nat} {S : Nat → Prop} {m : Bx} {R : Value → Heap → Prop} (B : IsRef h b S m)
    (H : ∀ s h', Own StrE t_string h' s (listB m).1 → Ext h h' → (∀ c, s.blk = some c → h.size ≤ c) → R (.tuple #[.slice s.p s.len s.cap, .int .i64 (listB m).2]) h') : HCalls A P f_wherryref03_Box_List #[ptrV b] h R := by
  obtain ⟨s, B, hS⟩ := B
  refine ok_wherryref03_Box_List ?_
  unfold F_wherryref03_Box_List
  unfold listB at H
  have hlen : m.files.length ≤ 1099511627776 := by have := wtF_len m.files; have := B.good.wt; omega
  refine atI (LoadB.mk (hget_lit1 B.head rfl) ?_)
  refine PIf.intro (fun hd => ?_) (fun hd => ?_)
  · rw [if_pos hd] at H; exact H ⟨none, 0, 0⟩ h Own.nil Mod.refl (fun c hc => by simp [Sl.blk] at hc)
  rw [if_neg (by simp [hd])] at H
  refine Loop.rule (fun q x hh => ∃ (i : Nat) (y : Sl), x = (y, (i : Int), ()) ∧ q = m.files.length - i ∧ i ≤ m.files.length ∧ Own StrE t_string hh y ((m.files.take i).map (·.name)) ∧ Ext h hh ∧ (∀ c, y.blk = some c → h.size ≤ c)) ?_
    ⟨0, ⟨none, 0, 0⟩, rfl, rfl, by omega, Own.nil, Mod.refl, fun c hc => by simp [Sl.blk] at hc⟩
  rintro K q _ hh ⟨i, y, rfl, rfl, hi, oy, xh, fy⟩ hK
  have Bh := B.mod xh (fun _ _ h => h)
  have V := Bh.own.view
  refine atI (LoadL.mk (hget_lit Bh.head rfl) ?_)
  refine PIf.intro (fun hq => ?_) (fun hq => ?_)
  · have hil : i < m.files.length := by simpa [V.len] using hq
    have hg := List.getElem?_eq_getElem hil
    refine atI (LoadL.mk (hget_lit Bh.head rfl) (V.idx hg fun a _ c => LoadS.mk c.fi.1 ?_))
    refine New.append1 (E := StrE) (x := (m.files[i]).name) rfl app_str oy (by simp; omega) (by simp [maxLen]; omega) fun s3 h3 o3 m3 bl3 _ => ?_
    refine hK (m.files.length - (i + 1)) _ _ (by omega) ⟨i + 1, s3, by rw [wrap_succ (by omega)], rfl, by omega, ?_, xh.then (m3.weak fun c _ hc => .inr (fy c hc)), fun c hc => (bl3 c hc).elim (fy c) fun h => by have := xh.size; omega⟩
    rw [List.take_add_one, hg, List.map_append]
    exact o3
  · have hil : i = m.files.length := by simp [V.len] at hq; omega
    subst hil
    rw [List.take_length] at oy
    exact H y hh oy xh fy
end Go.Lf.G
