/-
  Contracts of the parts of the statements about merged sequences.
-/
import Derived.Test.YtdaodhcpiafgfaaLfM5
set_option maxRecDepth 100000
namespace Go.Lf.G
open Go

/-- lists of pairs, to be read -/
def LV (h : Heap) (s : Sl) (ls : List (List Pr)) : Prop :=
  ∃ sls, View SlE h s sls ∧ sls.length = ls.length ∧ ∀ (i : Nat) (sl : Sl) (l : List Pr), sls[i]? = some sl → ls[i]? = some l → View PairE h sl l
/-- they lie apart from X -/
def LA (X : Nat → Prop) (h : Heap) (s : Sl) (ls : List (List Pr)) : Prop :=
  ∃ sls, View SlE h s sls ∧ (∀ c, s.blk = some c → c < h.size ∧ ¬ X c) ∧ sls.length = ls.length ∧ ∀ (i : Nat) (sl : Sl) (l : List Pr), sls[i]? = some sl → ls[i]? = some l → View PairE h sl l ∧ ∀ c, sl.blk = some c → c < h.size ∧ ¬ X c

theorem LV.ext {h h' : Heap} {s : Sl} {ls : List (List Pr)} (v : LV h s ls) (x : Ext h h') : LV h' s ls := by
  obtain ⟨sls, v, hl, hr⟩ := v
  exact ⟨sls, v.ext x, hl, fun i sl l h1 h2 => (hr i sl l h1 h2).ext x⟩
theorem LA.lv {X : Nat → Prop} {h : Heap} {s : Sl} {ls : List (List Pr)} (v : LA X h s ls) : LV h s ls := by
  obtain ⟨sls, v, _, hl, hr⟩ := v
  exact ⟨sls, v, hl, fun i sl l h1 h2 => (hr i sl l h1 h2).1⟩
theorem LA.mod {X X' : Nat → Prop} {S : Nat → Prop} {h h' : Heap} {s : Sl} {ls : List (List Pr)} (v : LA X h s ls) (x : Mod S h h') (hS : ∀ c, c < h.size → S c → X c) (hX : ∀ c, c < h.size → X' c → X c) : LA X' h' s ls := by
  obtain ⟨sls, v, hb, hl, hr⟩ := v
  have := x.size
  refine ⟨sls, v.mod x fun c hc hs => (hb c hc).2 (hS c (hb c hc).1 hs), fun c hc => ⟨by have := (hb c hc).1; omega, fun hx => (hb c hc).2 (hX c (hb c hc).1 hx)⟩, hl, fun i sl l h1 h2 => ?_⟩
  obtain ⟨v1, hb1⟩ := hr i sl l h1 h2
  exact ⟨v1.mod x fun c hc hs => (hb1 c hc).2 (hS c (hb1 c hc).1 hs), fun c hc => ⟨by have := (hb1 c hc).1; omega, fun hx => (hb1 c hc).2 (hX c (hb1 c hc).1 hx)⟩⟩
theorem LA.ext {X : Nat → Prop} {h h' : Heap} {s : Sl} {ls : List (List Pr)} (v : LA X h s ls) (x : Ext h h') : LA X h' s ls := v.mod x (fun _ _ h => h.elim) fun _ _ h => h

theorem putsL_take {t l : List Pr} {n : Nat} {x : Pr} (h : l[n]? = some x) : putsL t (l.take (n + 1)) = putL x (putsL t (l.take n)) := by
  rw [List.take_add_one, h]
  simp only [putsL, List.foldl_append, Option.toList_some, List.foldl_cons, List.foldl_nil]

theorem mem_total {l : List Pr} {ls : List (List Pr)} (h : l ∈ ls) : l.length ≤ total ls := by
  induction ls with
  | nil => cases h
  | cons m ls ih =>
    simp only [total, List.map_cons, List.sum_cons] at *
    rcases List.mem_cons.1 h with rfl | h
    · omega
    · have := ih h; omega

theorem ordered_ok {A : Amb} {h : Heap} {s : Sl} {ls : List (List Pr)} {R : Value → Heap → Prop} (v : LV h s ls) (hl : ls.length ≤ 1099511627776) (ht : total ls ≤ 1099511627776)
    (H : ∀ s' h', LA (fun c => c < h.size) h' s' (ls.map ordL) → Ext h h' → R (.slice s'.p s'.len s'.cap) h') : HCalls A P f_wherrylaw08_ordered #[.slice s.p s.len s.cap] h R := by
  obtain ⟨sls, v, hlen, hr⟩ := v
  refine ok_wherrylaw08_ordered ?_
  unfold F_wherrylaw08_ordered
  refine Loop.rule (fun m x hh => ∃ (i : Nat) (t : Sl) (tls : List Sl), x = (t, (i : Int), ()) ∧ m = sls.length - i ∧ i ≤ sls.length ∧ Ext h hh ∧ Own SlE t_sl_api_Pair hh t tls ∧ (∀ c, t.blk = some c → h.size ≤ c) ∧ NRows h.size hh (fun _ => False) t tls ((ls.take i).map ordL)) ?_
    ⟨0, ⟨none, 0, 0⟩, [], rfl, rfl, by omega, Mod.refl, Own.nil, fun c hc => by simp [Sl.blk] at hc, ⟨by simp, fun j sl l h => by simp at h⟩⟩
  rintro K m _ hh ⟨i, t, tls, rfl, rfl, hi, hx, o, hbt, hnr⟩ hK
  have htl := hnr.len
  simp only [List.length_map, List.length_take] at htl
  refine PIf.intro (fun hq => ?_) (fun hq => ?_)
  · have hi' : i < sls.length := by simp [v.len] at hq; omega
    have hgs := List.getElem?_eq_getElem hi'
    have hgl := List.getElem?_eq_getElem (l := ls) (i := i) (by omega)
    have hv := hr i _ _ hgs hgl
    refine (v.ext hx).idx hgs fun a _ c1 => ?_
    refine LoadL.mk c1.sl ?_
    refine New.mk fun h2 _ hb2 hx2 hsz2 => ?_
    have hxh2 : Ext h h2 := hx.trans hx2
    have hlb : ls[i].length ≤ 1099511627776 := by have := mem_total (List.getElem_mem (l := ls) (n := i) (by omega)); omega
    refine Loop.rule (fun m x h3 => ∃ (n : Nat) (y : Sl), x = ((n : Int), ()) ∧ m = ls[i].length - n ∧ n ≤ ls[i].length ∧ Ext hh h3 ∧ h3[hh.size]? = some (.cells #[.slice y.p y.len y.cap] t_wherryref05_Table (0, 0)) ∧ Own PairE t_api_Pair h3 y (putsL [] (ls[i].take n)) ∧ (∀ c, y.blk = some c → hh.size < c)) ?_
      ⟨0, ⟨none, 0, 0⟩, rfl, rfl, by omega, hx2, hb2, Own.nil, fun c hc => by simp [Sl.blk] at hc⟩
    rintro K1 m _ h3 ⟨n, y, rfl, rfl, hn, hx3, hb3, oy, hby⟩ hK1
    have hblt := blk_lt hb3
    have hplen := putsL_len (l := ls[i].take n) (t := [])
    simp only [List.length_nil, List.length_take] at hplen
    have vl : View PairE h3 sls[i] ls[i] := hv.ext (hx.trans hx3)
    refine PIf.intro (fun hq => ?_) (fun hq => ?_)
    · have hn' : n < ls[i].length := by simp [hv.len] at hq; omega
      have hgn := List.getElem?_eq_getElem hn'
      refine vl.idx hgn fun a1 _ c1 => ?_
      refine LoadS.mk c1.pair.1 (LoadS.mk c1.pair.2.1 (LoadB.mk c1.pair.2.2 ?_))
      refine New.pair fun b1 h7 eb hb7 x7 hs7 => ?_
      refine LoadS.mk (hget_lit hb7 rfl) (LoadS.mk (hget_lit1 hb7 rfl) (LoadB.mk (hget_lit1 hb7 rfl) ?_))
      refine Put_ok (x := ls[i][n]) (x7.blk hb3 (by simp)) (oy.ext x7) (by omega) fun s8 h8 o8 hb8 m8 bl8 => ⟨_, rfl, ?_⟩
      refine hK1 (ls[i].length - (n + 1)) _ _ (by omega) ⟨n + 1, s8, by rw [wrap_succ (by omega)], rfl, by omega, ?_, hb8, ?_, ?_⟩
      · exact (hx3.trans x7).then (m8.weak fun c _ hc => .inr (by omega))
      · have : putsL [] (ls[i].take (n + 1)) = putL ls[i][n] (putsL [] (ls[i].take n)) := putsL_take hgn
        rw [this]; exact o8
      · intro c hc
        rcases bl8 c hc with h1 | h1
        · exact hby c h1
        · omega
    · have hn' : n = ls[i].length := by simp [hv.len] at hq; omega
      rw [hn', List.take_length] at oy
      refine LoadL.mk (hget_lit hb3 rfl) ?_
      have htls : tls.length ≤ i := by omega
      refine New.append1 (E := SlE) (x := y) rfl app_list (o.ext hx3) (by omega) (by simp [maxLen]; omega) fun s4 h4 o4 m4 bl4 _ => ?_
      have x04 : Ext h h4 := (hx.trans hx3).then (m4.weak fun c _ hc => .inr (hbt c hc))
      have hs0 := hx.size
      refine hK (sls.length - (i + 1)) _ _ (by omega) ⟨i + 1, s4, _, by rw [wrap_succ (by omega)], rfl, by omega, x04, o4, ?_, ?_⟩
      · intro c hc
        rcases bl4 c hc with h1 | h1
        · exact hbt c h1
        · omega
      · have e : (ls.take (i + 1)).map ordL = (ls.take i).map ordL ++ [ordL ls[i]] := by rw [List.take_add_one, hgl, List.map_append]; rfl
        rw [e]
        have r4 := (hnr.mod hx3 (fun c _ _ _ _ h => h) (fun c _ h => h) (fun c _ h => h)).mod (t' := s4) m4 (fun c _ _ hn _ => hn) (fun c hc h1 => (bl4 c h1).elim id fun h2 => by omega) (fun c _ h => h)
        refine ⟨by simp [r4.len], fun j sl l' h1 h2 => ?_⟩
        rcases Nat.lt_trichotomy j tls.length with hj | hj | hj
        · rw [List.getElem?_append_left hj] at h1
          rw [List.getElem?_append_left (by rw [← r4.len]; exact hj)] at h2
          exact r4.row j sl l' h1 h2
        · subst hj
          rw [List.getElem?_concat_length] at h1
          rw [r4.len, List.getElem?_concat_length] at h2
          cases h1; cases h2
          refine ⟨(oy.view).mod m4 fun c hc hn => ?_, by have := ordL_len ls[i]; omega, fun c hc => ⟨?_, ?_, ?_, id⟩⟩
          · have := o.lt hn; have := hby c hc; omega
          · have := hby c hc; omega
          · have := oy.lt hc; have := m4.size; omega
          · intro h1
            have := oy.lt hc
            rcases bl4 c h1 with h2 | h2
            · have := o.lt h2; have := hby c hc; omega
            · omega
        · rw [List.getElem?_eq_none (by simp; omega)] at h1; cases h1
  · have hi' : i = sls.length := by simp [v.len] at hq; omega
    rw [hi', hlen, List.take_length] at hnr
    refine H t hh ⟨tls, o.view, fun c hc => ⟨o.lt hc, by have := hbt c hc; omega⟩, hnr.len, fun i sl l h1 h2 => ?_⟩ hx
    obtain ⟨v1, _, hc⟩ := hnr.row i sl l h1 h2
    exact ⟨v1, fun c hb => ⟨(hc c hb).2.1, by have := (hc c hb).1; omega⟩⟩

theorem refAllL_len : ∀ ls, (refAllL ls).length ≤ total ls
  | [] => Nat.le_refl _
  | l :: ls => by
    rw [refAllL_cons]
    have := refAllL_len ls
    have := putsL_len (l := l) (t := refAllL ls)
    simp [total] at *; omega
theorem refAllL_good : ∀ ls, GoodL (refAllL ls)
  | [] => fun _ h => by cases h
  | l :: ls => by rw [refAllL_cons]; exact putsL_good (refAllL_good ls)

theorem total_cons (l : List Pr) (ls : List (List Pr)) : total (l :: ls) = l.length + total ls := by simp [total]
theorem total_drop (ls : List (List Pr)) (i : Nat) : total (ls.drop i) ≤ total ls := by
  induction ls generalizing i with
  | nil => simp
  | cons l ls ih =>
    cases i with
    | zero => simp
    | succ i => have := ih i; rw [List.drop_succ_cons, total_cons]; omega
theorem total_take (ls : List (List Pr)) (i : Nat) : total (ls.take i) ≤ total ls := by
  induction ls generalizing i with
  | nil => simp
  | cons l ls ih =>
    cases i with
    | zero => simp [total]
    | succ i => have := ih i; rw [List.take_succ_cons, total_cons, total_cons]; omega

theorem refAll_ok {A : Amb} {h : Heap} {s : Sl} {ls : List (List Pr)} {R : Value → Heap → Prop} (v : LV h s ls) (hl : ls.length ≤ 1099511627776) (ht : total ls < 1099511627776)
    (H : ∀ s' h', Own PairE t_api_Pair h' s' (refAllL ls) → (∀ c, s'.blk = some c → h.size ≤ c) → Ext h h' → R (.slice s'.p s'.len s'.cap) h') : HCalls A P f_wherryref08_All #[.slice s.p s.len s.cap] h R := by
  obtain ⟨sls, v, hlen, hr⟩ := v
  refine ok_wherryref08_All ?_
  unfold F_wherryref08_All
  refine New.mk fun h1 _ hb1 hx1 hsz1 => ?_
  have hw : IntKind.wrap .i64 (((s.len : Nat) : Int) - (1 : Int)) = (sls.length : Int) - 1 := by
    rw [v.len, hlen]
    cases hn : ls.length with
    | zero => rfl
    | succ n => rw [show (((n + 1 : Nat) : Int) - 1) = (n : Int) by omega]; exact wrap_nat (by omega)
  rw [hw]
  refine Loop.rule (fun m x h2 => ∃ (i : Nat) (y : Sl), x = ((i : Int) - 1, ()) ∧ m = i ∧ i ≤ sls.length ∧ Ext h h2 ∧ h2[h.size]? = some (.cells #[.slice y.p y.len y.cap] t_wherryref05_Table (0, 0)) ∧ Own PairE t_api_Pair h2 y (refAllL (ls.drop i)) ∧ (∀ c, y.blk = some c → h.size < c)) ?_
    ⟨sls.length, ⟨none, 0, 0⟩, rfl, rfl, by omega, hx1, hb1, by rw [hlen, List.drop_length]; exact Own.nil, fun c hc => by simp [Sl.blk] at hc⟩
  rintro K m _ h2 ⟨i, y, rfl, rfl, hi, hx2, hb2, oy, hby⟩ hK
  refine PIf.intro (fun hq => ?_) (fun hq => ?_)
  · cases m with
    | zero => simp at hq
    | succ i =>
      have hgs := List.getElem?_eq_getElem (l := sls) (i := i) (by omega)
      have hgl := List.getElem?_eq_getElem (l := ls) (i := i) (by omega)
      have hv := hr i _ _ hgs hgl
      have hdr : ls.drop i = ls[i] :: ls.drop (i + 1) := List.drop_eq_getElem_cons (by omega)
      have htd := total_drop ls i
      rw [hdr, total_cons] at htd
      have hrl := refAllL_len (ls.drop (i + 1))
      have hii : (((i + 1 : Nat) : Int) - 1) = (i : Int) := by omega
      rw [hii]
      refine Loop.rule (fun m x h3 => ∃ (n : Nat) (y : Sl), x = ((n : Int), ()) ∧ m = ls[i].length - n ∧ n ≤ ls[i].length ∧ Ext h h3 ∧ h3[h.size]? = some (.cells #[.slice y.p y.len y.cap] t_wherryref05_Table (0, 0)) ∧ Own PairE t_api_Pair h3 y (putsL (refAllL (ls.drop (i + 1))) (ls[i].take n)) ∧ (∀ c, y.blk = some c → h.size < c)) ?_
        ⟨0, y, rfl, rfl, by omega, hx2, hb2, by simpa [putsL] using oy, hby⟩
      rintro K1 m _ h3 ⟨n, y, rfl, rfl, hn, hx3, hb3, oy, hby⟩ hK1
      have hblt := blk_lt hb3
      have hplen := putsL_len (l := ls[i].take n) (t := refAllL (ls.drop (i + 1)))
      simp only [List.length_take] at hplen
      have vl : View PairE h3 sls[i] ls[i] := hv.ext hx3
      refine (v.ext hx3).idx hgs fun a _ c1 => ?_
      refine LoadL.mk c1.sl ?_
      refine PIf.intro (fun hq => ?_) (fun hq => ?_)
      · have hn' : n < ls[i].length := by simp [hv.len] at hq; omega
        have hgn := List.getElem?_eq_getElem hn'
        refine (v.ext hx3).idx hgs fun a _ c1 => ?_
        refine LoadL.mk c1.sl ?_
        refine vl.idx hgn fun a1 _ c1 => ?_
        refine LoadS.mk c1.pair.1 (LoadS.mk c1.pair.2.1 (LoadB.mk c1.pair.2.2 ?_))
        refine Put_ok (x := ls[i][n]) hb3 oy (by omega) fun s8 h8 o8 hb8 m8 bl8 => ⟨_, rfl, ?_⟩
        refine hK1 (ls[i].length - (n + 1)) _ _ (by omega) ⟨n + 1, s8, by rw [wrap_succ (by omega)], rfl, by omega, ?_, hb8, ?_, ?_⟩
        · exact hx3.then (m8.weak fun c _ hc => .inr (by omega))
        · have : putsL (refAllL (ls.drop (i + 1))) (ls[i].take (n + 1)) = putL ls[i][n] (putsL (refAllL (ls.drop (i + 1))) (ls[i].take n)) := putsL_take hgn
          rw [this]; exact o8
        · intro c hc
          rcases bl8 c hc with h1 | h1
          · exact hby c h1
          · omega
      · have hn' : n = ls[i].length := by simp [hv.len] at hq; omega
        rw [hn', List.take_length] at oy
        refine hK i _ _ (by omega) ⟨i, y, ?_, rfl, by omega, hx3, hb3, by rw [hdr, refAllL_cons]; exact oy, hby⟩
        cases i with
        | zero => rfl
        | succ i => 
          rw [show (((i + 1 : Nat) : Int) - 1) = (i : Int) by omega, wrap_nat (by omega)]
  · cases m with
    | zero =>
      refine LoadL.mk (hget_lit hb2 rfl) ?_
      exact H y h2 oy (fun c hc => by have := hby c hc; omega) hx2
    | succ i => simp at hq

/-! ### sequences -/
def Seqs (A : Amb) (X : Nat → Prop) (h : Heap) (s : Sl) (ls : List (List Pr)) : Prop :=
  ∃ vs, View ValE h s vs ∧ (∀ c, s.blk = some c → c < h.size ∧ ¬ X c) ∧ vs.length = ls.length ∧ ∀ (i : Nat) (v : OneV) (l : List Pr), vs[i]? = some v → ls[i]? = some l → (v.v = .nilFunc ∧ l = []) ∨ (IterV A P v.v (fun c => c < h.size ∧ ¬ X c) h l ∧ l.length ≤ 1099511627776)

end Go.Lf.G
namespace Go.Lf
open G
theorem IterV.later {A : Amb} {X : Nat → Prop} {fv : Value} {h h' : Heap} {l : List Pr} (it : IterV A P fv (fun c => c < h.size ∧ ¬ X c) h l) {S : Nat → Prop} (x : Mod S h h') (hS : ∀ c, c < h.size → S c → X c) : IterV A P fv (fun c => c < h'.size ∧ ¬ X c) h' l :=
  it.weak (fun c hc => ⟨by have := x.size; omega, hc.2⟩) (fun c hc => hc.1) fun c hc => x.get c hc.1 fun hs => hc.2 (hS c hc.1 hs)
end Go.Lf
namespace Go.Lf.G
open Go

theorem Values_ok' {A : Amb} {X : Nat → Prop} {h : Heap} {s : Sl} {l : List Pr} {R : Value → Heap → Prop} (v : View PairE h s l) (hl : l.length ≤ 1099511627776) (hb : ∀ c, s.blk = some c → ¬ X c) (hX : ∀ c, X c → c < h.size)
    (H : ∀ fv h', IterV A P fv (fun c => c < h'.size ∧ ¬ X c) h' l → Ext h h' → h'.size = h.size + 1 → R fv h') : HCalls A P f_slices_Values_of___api_Pair_api_Pair #[.slice s.p s.len s.cap] h R :=
  Values_ok v hl fun fv h' it x hs => H fv h' (it.weak (fun c hc => ⟨hc.1, by
    rcases hc.2 with rfl | h1
    · intro hx; have := hX _ hx; omega
    · exact hb c h1⟩) (fun c hc => hc.1) (fun c _ => rfl)) x hs

theorem seqs_ok {A : Amb} {X : Nat → Prop} {h : Heap} {s : Sl} {ls : List (List Pr)} {R : Value → Heap → Prop} (v : LA X h s ls) (hX : ∀ c, X c → c < h.size) (hl : ls.length ≤ 1099511627776) (ht : total ls ≤ 1099511627776)
    (H : ∀ s' h', Seqs A X h' s' ls → Ext h h' → R (.slice s'.p s'.len s'.cap) h') : HCalls A P f_wherrylaw08_seqs #[.slice s.p s.len s.cap] h R := by
  obtain ⟨sls, v, hsb, hlen, hr⟩ := v
  refine ok_wherrylaw08_seqs ?_
  unfold F_wherrylaw08_seqs
  refine Loop.rule (fun m x hh => ∃ (i : Nat) (t : Sl) (vs : List OneV), x = (t, (i : Int), ()) ∧ m = sls.length - i ∧ i ≤ sls.length ∧ Ext h hh ∧ Own ValE t_iter_Seq_wherry_api_Pair hh t vs ∧ (∀ c, t.blk = some c → h.size ≤ c) ∧ vs.length = i ∧
      ∀ (j : Nat) (v : OneV) (l : List Pr), vs[j]? = some v → ls[j]? = some l → (v.v = .nilFunc ∧ l = []) ∨ (IterV A P v.v (fun c => c < hh.size ∧ ¬ X c ∧ t.blk ≠ some c) hh l ∧ l.length ≤ 1099511627776)) ?_
    ⟨0, ⟨none, 0, 0⟩, [], rfl, rfl, by omega, Mod.refl, Own.nil, fun c hc => by simp [Sl.blk] at hc, rfl, fun j v l h => by simp at h⟩
  rintro K m _ hh ⟨i, t, vs, rfl, rfl, hi, hx, o, hbt, hvl, hit⟩ hK
  refine PIf.intro (fun hq => ?_) (fun hq => ?_)
  · have hi' : i < sls.length := by simp [v.len] at hq; omega
    have hgs := List.getElem?_eq_getElem hi'
    have hgl := List.getElem?_eq_getElem (l := ls) (i := i) (by omega)
    obtain ⟨hv, hvb⟩ := hr i _ _ hgs hgl
    have hlb : ls[i].length ≤ 1099511627776 := by have := mem_total (List.getElem_mem (l := ls) (n := i) (by omega)); omega
    refine Join.mk fun K1 hK1 => ?_
    refine (v.ext hx).idx hgs fun a _ c1 => ?_
    refine LoadL.mk c1.sl ?_
    have hs0 := hx.size
    have hstep : ∀ (s4 : Sl) (h3 h4 : Heap) (y : OneV), Ext hh h3 → Own ValE t_iter_Seq_wherry_api_Pair h4 s4 (vs ++ [y]) → Mod (fun b => t.blk = some b) h3 h4 → (∀ b, s4.blk = some b → t.blk = some b ∨ h3.size ≤ b) →
        ((y.v = .nilFunc ∧ ls[i] = []) ∨ IterV A P y.v (fun c => c < h3.size ∧ ¬ X c ∧ t.blk ≠ some c) h3 ls[i]) → K1 (s4, ()) h4 := fun s4 h3 h4 y x3 o4 m4 bl4 hy => hK1 _ _ (by
      have hs3 := x3.size
      have hs4 := m4.size
      refine hK (sls.length - (i + 1)) _ _ (by omega) ⟨i + 1, s4, _, by rw [wrap_succ (by omega)], rfl, by omega, ?_, o4, ?_, by simp [hvl], ?_⟩
      · exact (hx.trans x3).then (m4.weak fun c _ hc => .inr (hbt c hc))
      · intro c hc
        rcases bl4 c hc with h1 | h1
        · exact hbt c h1
        · omega
      · have hne : ∀ c, c < h3.size → t.blk ≠ some c → s4.blk ≠ some c := fun c hc h1 h2 => (bl4 c h2).elim h1 fun h3 => by omega
        intro j v l h1 h2
        rcases Nat.lt_trichotomy j vs.length with hj | hj | hj
        · rw [List.getElem?_append_left hj] at h1
          rcases hit j v l h1 h2 with h3 | ⟨h3, h5⟩
          · exact .inl h3
          · exact .inr ⟨h3.weak (fun c hc => ⟨by omega, hc.2.1, hne c (by omega) hc.2.2⟩) (fun c hc => hc.1) (fun c hc => (m4.get c (by omega) hc.2.2).trans (x3.get c hc.1 (fun h => h))), h5⟩
        · rw [hj, List.getElem?_concat_length] at h1
          cases h1
          have : l = ls[i] := by rw [hj, hvl, hgl] at h2; exact (Option.some.inj h2).symm
          subst this
          rcases hy with h3 | h3
          · exact .inl h3
          · exact .inr ⟨h3.weak (fun c hc => ⟨by omega, hc.2.1, hne c hc.1 hc.2.2⟩) (fun c hc => hc.1) (fun c hc => m4.get c hc.1 hc.2.2), hlb⟩
        · rw [List.getElem?_eq_none (by simp; omega)] at h1; cases h1)
    refine PIf.intro (fun hq => ?_) (fun hq => ?_)
    · have he : ls[i] = [] := by
        have := hv.len
        cases hc : ls[i] with
        | nil => rfl
        | cons q w => rw [hc] at this; simp [this] at hq; omega
      refine New.append1 (E := ValE) (x := ⟨.nilFunc, rfl⟩) rfl app_seq o (by omega) (by simp [maxLen]; omega) fun s4 h4 o4 m4 bl4 _ => ?_
      exact hstep s4 hh h4 ⟨.nilFunc, rfl⟩ Mod.refl o4 m4 bl4 (.inl ⟨rfl, he⟩)
    · refine Values_ok' (A := A) (X := fun c => X c ∨ t.blk = some c) (hv.ext hx) hlb (fun c hc h1 => ?_) (fun c hc => ?_) fun fv h5 it5 x5 _ => ⟨fv, rfl, ?_⟩
      · rcases h1 with h1 | h1
        · exact (hvb c hc).2 h1
        · have := hbt c h1; have := (hvb c hc).1; omega
      · rcases hc with h1 | h1
        · have := hX c h1; omega
        · exact o.lt h1
      · refine OneK.mk it5.one.1 ?_
        refine New.append1 (E := ValE) (x := ⟨fv, it5.one.1⟩) rfl app_seq (o.ext x5) (by omega) (by simp [maxLen]; omega) fun s4 h4 o4 m4 bl4 _ => ?_
        exact hstep s4 h5 h4 ⟨fv, it5.one.1⟩ x5 o4 m4 bl4 (.inr (it5.weak (fun c hc => ⟨hc.1, fun h => hc.2 (.inl h), fun h => hc.2 (.inr h)⟩) (fun c hc => hc.1) (fun c _ => rfl)))
  · have hi' : i = sls.length := by simp [v.len] at hq; omega
    refine H t hh ⟨vs, o.view, fun c hc => ⟨o.lt hc, fun h => by have := hbt c hc; have := hX c h; omega⟩, by omega, fun j v l h1 h2 => ?_⟩ hx
    rcases hit j v l h1 h2 with h3 | ⟨h3, h4⟩
    · exact .inl h3
    · exact .inr ⟨h3.weak (fun c hc => ⟨hc.1, hc.2.1⟩) (fun c hc => hc.1) (fun c _ => rfl), h4⟩

/-- several sequences are one -/
theorem All_ok {A : Amb} {X : Nat → Prop} {h : Heap} {s : Sl} {ls : List (List Pr)} {R : Value → Heap → Prop} (q : Seqs A X h s ls) (hX : ∀ c, X c → c < h.size) (hl : ls.length ≤ 1099511627776) (o : OkL ls)
    (H : ∀ fv h', IterV A P fv (fun c => c < h'.size ∧ ¬ X c) h' (refAllL ls) → Ext h h' → h'.size = h.size + 1 → R fv h') : HCalls A P f_merge_All #[.slice s.p s.len s.cap] h R := by
  obtain ⟨vs, v, hsb, hvl, hit⟩ := q
  refine ok_merge_All ?_
  unfold F_merge_All
  refine New.mk fun h1 _ hb1 hx hsz => ?_
  have hos : ∃ os : List (Option (List Pr)), os.length = vs.length ∧ (∀ (i : Nat) (v : OneV), vs[i]? = some v → (v.v = .nilFunc ∧ os[i]? = some none) ∨ ∃ l, os[i]? = some (some l) ∧ IterV A P v.v (fun c => c < h.size ∧ ¬ X c) h l ∧ l.length ≤ 1099511627776) ∧
      (∀ l, l ∈ os.filterMap id → l ∈ ls) ∧ ∀ k, findLs k (os.filterMap id) = findLs k ls := by
    clear v hX hl o H hb1 hx hsz hsb
    induction vs generalizing ls with
    | nil => 
      have : ls = [] := List.eq_nil_of_length_eq_zero hvl.symm
      subst this
      exact ⟨[], rfl, fun i v h => by simp at h, fun l h => by simp at h, fun k => rfl⟩
    | cons v vs ih =>
      cases ls with
      | nil => simp at hvl
      | cons l ls =>
        obtain ⟨os, h1, h2, h3, h4⟩ := ih (ls := ls) (by simpa using hvl) (fun i v l h1 h2 => hit (i + 1) v l (by simpa using h1) (by simpa using h2))
        rcases hit 0 v l rfl rfl with ⟨h5, h6⟩ | ⟨h5, h6⟩
        · refine ⟨none :: os, by simp [h1], fun i v hi => ?_, fun m hm => ?_, fun k => ?_⟩
          · cases i with
            | zero => simp at hi; subst hi; exact .inl ⟨h5, rfl⟩
            | succ i => exact h2 i v (by simpa using hi)
          · simp at hm; exact List.mem_cons_of_mem _ (h3 m (by simpa using hm))
          · subst h6
            rw [findLs_cons]
            simpa [findK_nil] using h4 k
        · refine ⟨some l :: os, by simp [h1], fun i v hi => ?_, fun m hm => ?_, fun k => ?_⟩
          · cases i with
            | zero => simp at hi; subst hi; exact .inr ⟨l, rfl, h5, h6⟩
            | succ i => exact h2 i v (by simpa using hi)
          · simp at hm
            rcases hm with rfl | hm
            · simp
            · exact List.mem_cons_of_mem _ (h3 m (by simpa using hm))
          · rw [findLs_cons, List.filterMap_cons]
            simp only [id]
            rw [findLs_cons, h4 k]
  obtain ⟨os, ho1, ho2, ho3, ho4⟩ := hos
  obtain ⟨out, hm, _⟩ := merges_exists (os.filterMap id)
  have hout : out = refAllL ls := by
    have hmo := hm.ok fun l hl => o.sorted l (ho3 l hl)
    exact hmo.1.ext (refAllL_sorted ls) fun k => by rw [hmo.2 k, ho4 k, refAllL_find k o]
  subst hout
  refine H _ h1 ((All1_ok (S := fun c => c < h.size ∧ ¬ X c) hb1 (v.ext hx) (by omega) ho1 (fun i v hi => ?_) hm (fun c hc => by omega)).weak ?_ (fun c hc => hc.1) (fun c _ => rfl)) hx hsz
  · rcases ho2 i v hi with h5 | ⟨l, h5, h6, h7⟩
    · exact .inl h5
    · exact .inr ⟨l, h5, h6.weak (fun c hc => hc) (fun c hc => by omega) (fun c hc => hx.get c hc.1 (fun h => h)), h7⟩
  · rintro c (hc | ⟨h1, h2⟩)
    · exact ⟨by omega, hc.2⟩
    · refine ⟨h1, ?_⟩
      rcases h2 with rfl | h2
      · intro h; have := hX _ h; omega
      · exact (hsb c h2).2
end Go.Lf.G
