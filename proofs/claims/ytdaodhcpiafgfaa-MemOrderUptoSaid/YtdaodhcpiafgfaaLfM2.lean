/-
  Contracts: the document's table; lists as sequences; sequences as lists.
-/
import Derived.Test.YtdaodhcpiafgfaaLfM1
set_option maxRecDepth 100000
namespace Go.Lf.G
open Go

theorem app_pair : appB P t_sl_api_Pair t_api_Pair PairE.w 40 = true := by kernel_rfl
theorem app_list : appB P t_sl_sl_api_Pair t_sl_api_Pair SlE.w 24 = true := by kernel_rfl
theorem app_seq : appB P t_sl_iter_Seq_wherry_api_Pair t_iter_Seq_wherry_api_Pair ValE.w 8 = true := by kernel_rfl

def insL (x : Pr) (l : List Pr) : List Pr := l.take (atK x.key l) ++ [x] ++ l.drop (if thereK x.key l then atK x.key l + 1 else atK x.key l)
def putL (x : Pr) (l : List Pr) : List Pr := if wrongP x ≠ 0 then l else insL x l

theorem there_lt {key : ByteArray} {l : List Pr} (h : thereK key l = true) : atK key l < l.length := by
  unfold thereK at h
  split at h
  · rename_i hq; exact (List.getElem?_eq_some_iff.1 hq).1
  · cases h

theorem insL_len (x : Pr) (l : List Pr) : (insL x l).length ≤ l.length + 1 := by
  unfold insL
  have := atK_le x.key l
  simp; split <;> omega
theorem putL_len (x : Pr) (l : List Pr) : (putL x l).length ≤ l.length + 1 := by
  unfold putL; split
  · omega
  · exact insL_len x l

theorem Put_ok {A : Amb} {h : Heap} {b : Nat} {T : TypeId} {s : Sl} {l : List Pr} {x : Pr} {R : Value → Heap → Prop} (hb : h[b]? = some (.cells #[.slice s.p s.len s.cap] T (0, 0))) (v : Own PairE t_api_Pair h s l) (hl : l.length < 1099511627776)
    (H : ∀ s' h', Own PairE t_api_Pair h' s' (putL x l) → h'[b]? = some (.cells #[.slice s'.p s'.len s'.cap] T (0, 0)) → Mod (· = b) h h' → (∀ c, s'.blk = some c → s.blk = some c ∨ h.size ≤ c) → R (.int .i64 (wrongP x)) h') :
    HCalls A P f_wherryref05_Table_Put #[.pointer (some ⟨b, 0, none⟩), .agg #[.string x.key, .string x.val, .bool x.gone]] h R := by
  refine ok_wherryref05_Table_Put ?_
  unfold F_wherryref05_Table_Put
  have hblt := blk_lt hb
  refine New.mk fun h1 _ hb1 hx hsz => ?_
  refine LoadS.mk (hget_lit hb1 rfl) (LoadS.mk (hget_lit1 hb1 rfl) (LoadB.mk (hget_lit1 hb1 rfl) ?_))
  refine Wrong_ok fun h2 hx2 hsz2 => ⟨_, rfl, ?_⟩
  have hx02 : Ext h h2 := hx.trans hx2
  refine PIf.intro (fun hq => ?_) (fun hq => ?_)
  · have hq : wrongP x ≠ 0 := by simpa using hq
    refine H s h2 ?_ (hx02.blk hb (by simp)) hx02.mod (fun c hc => .inl hc)
    simpa [putL, hq] using v.ext hx02
  · have hq : wrongP x = 0 := by simpa using hq
    have hb1' := hx2.blk hb1 (by simp)
    have hb2 := hx02.blk hb (by simp)
    have v2 := v.ext hx02
    refine LoadS.mk (hget_lit hb1' rfl) ?_
    refine at_ok hb2 v2.view (by omega) ⟨_, _, rfl, ?_⟩
    have hle := atK_le x.key l
    refine LoadL.mk (hget_lit hb2 rfl) ⟨⟨by omega, by have := v2.view.cap; have := v2.view.len; omega⟩, ?_⟩
    have hcat : (((atK x.key l : Nat) : Int)).toNat = atK x.key l := by omega
    rw [hcat]
    refine append_own (E := PairE) (s := ⟨none, 0, 0⟩) (l := []) (src := ⟨slOff s.p s.cap 0 3, atK x.key l - 0, s.cap - 0⟩) app_pair Own.nil (v2.view.sub (lo := 0) (hi := atK x.key l) (by omega) hle) (by simp; omega) (by simp [maxLen]; omega) fun s3 h3 o3 m3 bl3 _ => ?_
    have x3 : Ext h2 h3 := m3.weak (by simp [Sl.blk])
    have hb1'' := x3.blk hb1' (by simp)
    refine LoadS.mk (hget_lit hb1'' rfl) (LoadS.mk (hget_lit1 hb1'' rfl) (LoadB.mk (hget_lit1 hb1'' rfl) ?_))
    refine New.append1 (E := PairE) (x := x) rfl app_pair o3 (by simp; omega) (by simp [maxLen]; omega) fun s4 h4 o4 m4 bl4 _ => ?_
    have bl3' : ∀ c, s3.blk = some c → h2.size ≤ c := fun c hc => (bl3 c hc).elim (fun h => by simp [Sl.blk] at h) id
    have x4 : Ext h2 h4 := x3.then (m4.weak fun c _ hc => .inr (bl3' c hc))
    have bl4' : ∀ c, s4.blk = some c → h2.size ≤ c := fun c hc => (bl4 c hc).elim (bl3' c) fun h => Nat.le_trans x3.size h
    have hb4 := x4.blk hb2 (by simp)
    have v4 := v2.ext x4
    refine Join.mk fun K hK => ?_
    have key : ∀ j : Nat, j ≤ l.length → j = (if thereK x.key l then atK x.key l + 1 else atK x.key l) → K ((j : Int), ()) h4 := fun j hj e => hK _ _ (by
      refine LoadL.mk (hget_lit hb4 rfl) ⟨⟨by omega, by have := v4.view.len; omega⟩, ?_⟩
      have hcat : (((j : Nat) : Int)).toNat = j := by omega
      rw [hcat]
      have hlen := v4.view.len
      have vs := v4.view.sub (lo := j) (hi := l.length) hj (Nat.le_refl _)
      rw [← hlen] at vs
      refine append_own (E := PairE) (s := s4) (src := ⟨slOff s.p s.cap j 3, s.len - j, s.cap - j⟩) app_pair o4 vs ?_ ?_ fun s5 h5 o5 m5 bl5 _ => ?_
      · simp; omega
      · simp [maxLen]; omega
      · have x5 : Ext h2 h5 := x4.then (m5.weak fun c _ hc => .inr (bl4' c hc))
        have hb5 := x5.blk hb2 (by simp)
        have bl5' : ∀ c, s5.blk = some c → h2.size ≤ c := fun c hc => (bl5 c hc).elim (bl4' c) fun h => Nat.le_trans x4.size h
        refine Store.mk hb5 (by simp) fun h6 hb6 m6 hs6 => ?_
        have hlt2 := blk_lt hb2
        have o6 : Own PairE t_api_Pair h6 s5 (putL x l) := by
          have := o5.mod m6 (fun c hc => by have := bl5' c hc; omega)
          rw [hlen, List.take_length, e] at this
          simpa [putL, hq, insL] using this
        rw [← hq]
        exact H s5 h6 o6 (by simpa using hb6) ((Ext.mod (hx02.trans x5)).trans m6) (fun c hc => .inr (by have := bl5' c hc; have := hx02.size; omega)))
    refine PIf.intro (fun ht => ?_) (fun ht => ?_)
    · rw [wrap_succ (by omega)]
      exact key _ (there_lt ht) (by simp [ht])
    · exact key _ hle (by simp [ht])

/-! ### lists as sequences -/
theorem cat1 {y : Value} {c : Value} : (#[] ++ #[y] ++ #[c] : Array Value) = #[y, c] := rfl

theorem Values1_ok {A : Amb} {h0 : Heap} {b : Nat} {T : TypeId} {fr : Nat × Nat} {s : Sl} {l : List Pr} (hb : h0[b]? = some (.cells #[.slice s.p s.len s.cap] T fr)) (v : View PairE h0 s l) (hl : l.length ≤ 1099511627776) :
    IterV A P (.func (.func f_slices_Values_of___api_Pair_api_Pair_1) #[] #[.pointer (some ⟨b, 0, none⟩)]) (fun c => c < h0.size ∧ (c = b ∨ s.blk = some c)) h0 l := by
  refine ⟨fun c hc => hc.1, _, _, rfl, fun yv => by kernel_rfl, fun h hS yv J O hy hd hB hY hJ => ?_⟩
  rw [cat1]
  refine ok_slices_Values_of___api_Pair_api_Pair_1 ?_
  unfold F_slices_Values_of___api_Pair_api_Pair_1
  have hbl := blk_lt hb
  have hbS : ∀ hh, Mod O h hh → hh[b]? = some (.cells #[.slice s.p s.len s.cap] T fr) := fun hh m => by
    have e := hS b ⟨hbl, .inl rfl⟩
    exact m.blk (e.trans hb) (hd b ⟨hbl, .inl rfl⟩)
  have hvS : ∀ i x, l[i]? = some x → ∃ a, s.p = some a ∧ ∀ hh, Mod O h hh → Cells hh (a.add (i * 3)) (PairE.enc x) := fun i x hi => by
    obtain ⟨a, ha, hc⟩ := v.cells i x hi
    refine ⟨a, ha, fun hh m j u hj => ?_⟩
    have h1 := hc j u hj
    have hlt := hget_lt h1
    rw [add_block, add_block] at hlt
    have hSa : a.block < h0.size ∧ (a.block = b ∨ s.blk = some a.block) := ⟨hlt, .inr (by simp [Sl.blk, ha])⟩
    have e := hS _ hSa
    refine m.hget ((hget_blk ?_).trans h1) ?_
    · rw [add_block, add_block]; exact e
    · rw [add_block, add_block]; exact hd _ hSa
  refine LoadL.mk (hget_lit (hbS h Mod.refl) rfl) ?_
  refine Loop.rule (fun m x hh => ∃ (i : Nat) (O1 : Nat → Prop), x = ((i : Int), ()) ∧ m = l.length - i ∧ i ≤ l.length ∧ Mod O h hh ∧ (∀ b, O1 b → O b ∨ h.size ≤ b) ∧ J i true O1 hh) ?_ ⟨0, O, rfl, rfl, by omega, Mod.refl, fun b hb => .inl hb, hJ⟩
  rintro K m _ hh ⟨i, O1, rfl, rfl, hi, md, hsub, hj⟩ hK
  refine PIf.intro (fun hq => ?_) (fun hq => ?_)
  · have hi' : i < l.length := by simp [v.len] at hq; omega
    obtain ⟨a, ha, hc⟩ := hvS i _ (List.getElem?_eq_getElem hi')
    have c1 := hc hh md
    refine Idx.mk ha (by rw [v.len]; exact hi') ?_
    refine LoadS.mk (c1.pair.1) (LoadS.mk c1.pair.2.1 (LoadB.mk c1.pair.2.2 ?_))
    refine New.pair fun b1 h5 eb hb1 x5 hs5 => ?_
    refine LoadS.mk (hget_lit hb1 rfl) (LoadS.mk (hget_lit1 hb1 rfl) (LoadB.mk (hget_lit1 hb1 rfl) ?_))
    have hj5 := hB.stable _ _ _ _ _ hj (x5.weak (S' := fun b => ¬ O1 b ∧ h.size ≤ b) fun _ _ h => h.elim)
    refine CallV.mono (hY i _ O1 h5 (List.getElem?_eq_getElem hi') hj5) ?_
    rintro _ h6 ⟨g, O2, rfl, hsub2, m6, hj6⟩
    have hsub3 : ∀ b, O2 b → O b ∨ h.size ≤ b := fun b hb => (hsub2 b hb).elim (hsub b) fun hle => .inr (by have := md.size; have := x5.size; omega)
    have md6 : Mod O h h6 := (md.trans x5.mod).then (m6.weak fun b _ hb => (hsub b hb))
    refine ⟨g, rfl, ?_⟩
    refine PIf.intro (fun hq => ?_) (fun hq => ?_)
    · refine ⟨rfl, i + 1, g, O2, md6, hsub3, hj6, fun hg => ?_, by omega⟩
      subst hg; cases hq
    · have hg : g = true := by simpa using hq
      subst hg
      exact hK _ _ _ (by omega) ⟨i + 1, O2, by rw [wrap_succ (by omega)], rfl, by omega, md6, hsub3, hj6⟩
  · have hi' : i = l.length := by simp [v.len] at hq; omega
    exact ⟨rfl, i, true, O1, md, hsub, hj, fun _ => hi', by omega⟩

theorem Values_ok {A : Amb} {h : Heap} {s : Sl} {l : List Pr} {R : Value → Heap → Prop} (v : View PairE h s l) (hl : l.length ≤ 1099511627776)
    (H : ∀ fv h', IterV A P fv (fun c => c < h'.size ∧ (c = h.size ∨ s.blk = some c)) h' l → Ext h h' → h'.size = h.size + 1 → R fv h') : HCalls A P f_slices_Values_of___api_Pair_api_Pair #[.slice s.p s.len s.cap] h R := by
  refine ok_slices_Values_of___api_Pair_api_Pair ?_
  unfold F_slices_Values_of___api_Pair_api_Pair
  refine New.mk fun h1 _ hb1 hx hsz => ?_
  exact H _ h1 (Values1_ok hb1 (v.ext hx) hl) hx hsz

/-! ### sequences as lists -/
theorem AppendSeq_ok {A : Amb} {h h0 : Heap} {fv : Value} {S : Nat → Prop} {l : List Pr} {R : Value → Heap → Prop} (it : IterV A P fv S h0 l) (hS : ∀ b, S b → h[b]? = h0[b]?) (hl : l.length ≤ 1099511627776)
    (H : ∀ s h', Own PairE t_api_Pair h' s l → (∀ c, s.blk = some c → h.size ≤ c) → Ext h h' → R (.slice s.p s.len s.cap) h') : HCalls A P f_slices_AppendSeq_of___api_Pair_api_Pair #[.slice none 0 0, fv] h R := by
  refine ok_slices_AppendSeq_of___api_Pair_api_Pair (s := ⟨none, 0, 0⟩) ?_
  unfold F_slices_AppendSeq_of___api_Pair_api_Pair
  refine New.mk fun h1 _ hb hx hsz => ?_
  have hSlt : ∀ b, S b → b < h.size := fun b hb => by
    have := hS b hb
    rw [Array.getElem?_eq_getElem (it.1 b hb)] at this
    exact blk_lt this
  have hmd : ∀ h' : Heap, Mod (fun c => c = h.size) h1 h' → Ext h h' := fun h' m => hx.then (m.weak fun c _ hc => .inr (by omega))
  refine range_iter it (fun b hb => (hx.get b (hSlt b hb) (by simp)).trans (hS b hb))
    (fun i c O hh => c = none ∧ ∃ s : Sl, hh[h.size]? = some (.cells #[.slice s.p s.len s.cap] t_sl_api_Pair (0, 0)) ∧ Own PairE t_api_Pair hh s (l.take i) ∧ (∀ b, O b ↔ (b = h.size ∨ s.blk = some b)) ∧ (∀ b, s.blk = some b → b < hh.size ∧ h.size < b))
    (fun b => b = h.size) (fun b hb e => by have := hSlt b hb; omega) ?_ ?_ ?_ ?_ ?_ ?_
  · rintro i c O hh ⟨_, s, h2, o, hO, hlt⟩ b hb
    rcases (hO b).1 hb with rfl | h3
    · exact blk_lt h2
    · exact (hlt b h3).1
  · rintro i c O hh h' ⟨e, s, h2, o, hO, hlt⟩ m
    refine ⟨e, s, m.blk h2 (fun hn => hn.1 ((hO _).2 (.inl rfl))), o.mod m (fun c hc hn => hn.1 ((hO _).2 (.inr hc))), hO, fun b hb => ⟨?_, (hlt b hb).2⟩⟩
    have := m.size; have := (hlt b hb).1; omega
  · exact ⟨rfl, ⟨none, 0, 0⟩, hb, Own.nil, fun b => by simp [Sl.blk], fun b hb => by simp [Sl.blk] at hb⟩
  · rintro i x O1 hh rec kn' kj' hi ⟨_, s, h2, o, hO, hlt⟩ nO hsz1 hrec hst hkn hkj
    have hil := (List.getElem?_eq_some_iff.1 hi).1
    refine New.pair fun b1 h7 eb hb1 x7 hs7 => ?_
    refine ⟨rec, x7.blk hrec (by simp), hst, ?_⟩
    generalize hg : h7.setIfInBounds (h1.size + 1) (.loop { rec with state := .busy }) = h8
    have m8 : Mod (fun b => b = h1.size + 1) h7 h8 := hg ▸ Mod.setObj rfl
    have hl8 : h8[h1.size + 1]? = some (.loop { rec with state := .busy }) := by rw [← hg]; exact setObj_self (by omega)
    have hlt1 := blk_lt h2
    have hb8 := m8.blk hb1 (by omega)
    have h28 := m8.blk (x7.blk h2 (by simp)) (by omega)
    have o8 := (o.ext x7).mod m8 (fun c hc e => nO ((hO _).2 (.inr (e ▸ hc))))
    refine LoadL.mk (hget_lit h28 rfl) (LoadS.mk (hget_lit hb8 rfl) (LoadS.mk (hget_lit1 hb8 rfl) (LoadB.mk (hget_lit1 hb8 rfl) ?_)))
    have hlen : (l.take i).length = i := by simp; omega
    refine New.append1 (E := PairE) (x := x) rfl app_pair o8 (by rw [hlen]; omega) (by rw [hlen]; simp [maxLen]; omega) fun s4 h9 o9 m9 bl9 _ => ?_
    have hs8 := m8.size
    have hbl : s.blk ≠ some h.size := fun e => by have := hlt _ e; omega
    refine Store.mk (m9.blk h28 hbl) (by simp) fun h10 hb10 m10 hs10 => hkn h10 ?_
    refine ⟨fun b => b = h.size ∨ s4.blk = some b, ?_, ?_, ?_, rfl, s4, by simpa using hb10, ?_, fun _ => Iff.rfl, ?_⟩
    · rintro b (rfl | hb)
      · exact .inl ((hO _).2 (.inl rfl))
      · rcases bl9 b hb with h3 | h3
        · exact .inl ((hO _).2 (.inr h3))
        · exact .inr (by omega)
    · have e1 : Mod (fun b => O1 b ∨ b = h1.size + 1) hh h8 := x7.mod.trans (m8.weak fun b _ hb => .inr hb)
      have e2 : Mod (fun b => O1 b ∨ b = h1.size + 1) hh h9 := e1.trans (m9.weak fun b _ hb => .inl ((hO _).2 (.inr hb)))
      exact e2.trans (m10.weak fun b _ hb => .inl ((hO _).2 (.inl hb)))
    · refine m10.blk (m9.blk hl8 (fun e => nO ((hO _).2 (.inr e)))) (by omega)
    · have o10 := o9.mod m10 (fun c hc e => by
        rcases bl9 c hc with h3 | h3
        · have := hlt _ h3; omega
        · omega)
      rw [List.take_add_one, hi]
      exact o10
    · intro b hb
      have := m9.size
      have hbs : b < h9.size := by
        rcases o9.row with ⟨rfl, _⟩ | ⟨g, cur, hp, hgg, _⟩
        · simp [Sl.blk] at hb
        · simp [Sl.blk, hp] at hb; subst hb; exact blk_lt hgg
      refine ⟨by omega, ?_⟩
      rcases bl9 b hb with h3 | h3
      · exact (hlt _ h3).2
      · omega
  · rintro O' h' ⟨_, s, h2, o, hO, hlt⟩ md _ hsub hdf
    have hsz' := md.size
    refine LoadL.mk (hget_lit h2 rfl) ⟨hdf, ?_⟩
    rw [List.take_length] at o
    have hne : s.blk ≠ some h1.size := fun e => by
      rcases o.row with ⟨rfl, _⟩ | ⟨g, cur, hp, hgg, _⟩
      · simp [Sl.blk] at e
      · simp [Sl.blk, hp] at e; rw [e, hdf] at hgg; cases hgg
    refine H s _ (o.mod (Mod.setObj (S := fun c => c = h1.size) rfl) fun c hc e => hne (e ▸ hc)) (fun c hc => by have := hlt _ hc; omega) ?_
    exact (hmd h' md).then (Mod.setObj (.inr (by omega)))
  · rintro i j O' h' ⟨e, _⟩
    cases e

theorem Collect_ok {A : Amb} {h h0 : Heap} {fv : Value} {S : Nat → Prop} {l : List Pr} {R : Value → Heap → Prop} (it : IterV A P fv S h0 l) (hS : ∀ b, S b → h[b]? = h0[b]?) (hl : l.length ≤ 1099511627776)
    (H : ∀ s h', Own PairE t_api_Pair h' s l → (∀ c, s.blk = some c → h.size ≤ c) → Ext h h' → R (.slice s.p s.len s.cap) h') : HCalls A P f_slices_Collect_of_api_Pair #[fv] h R := by
  refine ok_slices_Collect_of_api_Pair ?_
  unfold F_slices_Collect_of_api_Pair
  exact AppendSeq_ok it hS hl fun s h' o hb hx => ⟨s, rfl, H s h' o hb hx⟩
end Go.Lf.G
