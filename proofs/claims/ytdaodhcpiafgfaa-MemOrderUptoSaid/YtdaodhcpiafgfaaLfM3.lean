/-
  Contracts: what lives; the first ones.
-/
import Derived.Test.YtdaodhcpiafgfaaLfM2
set_option maxRecDepth 100000
namespace Go.Lf.G
open Go

def liveL (l : List Pr) : List Pr := l.filter fun x => !x.gone

theorem filter_at {α : Type} {p : α → Bool} : ∀ {l : List α} {i : Nat} {x : α}, l[i]? = some x → p x = true → (l.filter p)[((l.take i).filter p).length]? = some x
  | [], i, x, h, _ => by simp at h
  | y :: l, 0, x, h, hp => by simp at h; subst h; simp [hp]
  | y :: l, i + 1, x, h, hp => by
    have ih := filter_at (p := p) (l := l) (i := i) (by simpa using h) hp
    rw [List.take_succ_cons, List.filter_cons, List.filter_cons]
    split
    · simpa using ih
    · exact ih

theorem filter_len_le {α : Type} {p : α → Bool} (l : List α) (i : Nat) : ((l.take i).filter p).length ≤ (l.filter p).length := ((List.take_sublist i l).filter p).length_le

theorem Live1_ok {A : Amb} {h0 : Heap} {b : Nat} {T : TypeId} {fr : Nat × Nat} {fv : Value} {S : Nat → Prop} {l : List Pr} (hb : h0[b]? = some (.cells #[fv] T fr)) (it : (fv = .nilFunc ∧ l = [] ∧ ∀ c, ¬ S c) ∨ IterV A P fv S h0 l) :
    IterV A P (.func (.func f_merge_Live_1) #[] #[.pointer (some ⟨b, 0, none⟩)]) (fun c => S c ∨ c = b) h0 (liveL l) := by
  have hbl := blk_lt hb
  refine ⟨?_, _, _, rfl, fun yv => by kernel_rfl, fun h hS yv J O hy hd hB hY hJ => ?_⟩
  · rintro c (hc | rfl)
    · rcases it with it | it
      · exact absurd hc (it.2.2 c)
      · exact it.1 c hc
    · exact hbl
  rw [cat1]
  refine ok_merge_Live_1 ?_
  unfold F_merge_Live_1
  refine OneK.mk hy (New.mk fun h1 _ hb1 hx hsz => ?_)
  have hbh : h1[b]? = some (.cells #[fv] T fr) := by
    have e := (hS b (.inr rfl)).trans hb
    exact hx.blk e (by simp)
  refine LoadV.mk (hget_lit hbh rfl) ?_
  rcases it with ⟨rfl, rfl, _⟩ | it
  · refine ⟨trivial, PIf.yes rfl ?_⟩
    exact ⟨rfl, 0, true, O, hx.mod, fun b hb => .inl hb, hB.stable _ _ _ _ _ hJ (hx.weak fun _ _ h => h.elim), fun _ => rfl, by simp⟩
  · refine ⟨it.one.2.1, PIf.no it.one.2.2 ?_⟩
    refine LoadV.mk (hget_lit hbh rfl) ?_
    have hOlt := hB.wf _ _ _ _ hJ
    have hSlt : ∀ b, S b → b < h.size := fun b hb => by
      have := hS b (.inl hb)
      rw [Array.getElem?_eq_getElem (it.1 b hb)] at this
      exact blk_lt this
    have hJ1 := hB.stable _ _ _ _ _ hJ (hx.weak (S' := fun b => ¬ O b ∧ h.size ≤ b) fun _ _ h => h.elim)
    refine range_iter it (fun c hc => (hx.get c (hSlt c hc) (by simp)).trans (hS c (.inl hc)))
      (fun i c O1 hh => hh[h.size]? = some (.cells #[yv] t_func_api_Pair_bool (0, 0)) ∧ ¬ O1 h.size ∧ match c with
        | none => J (liveL (l.take i)).length true O1 hh
        | some j => j = none ∧ ∃ k, k ≤ (liveL l).length ∧ J k false O1 hh)
      O (fun c hc => hd c (.inl hc)) ?_ ?_ ?_ ?_ ?_ ?_
    · rintro i c O1 hh ⟨_, _, hm⟩
      cases c
      · exact hB.wf _ _ _ _ hm
      · obtain ⟨_, k, _, hj⟩ := hm
        exact hB.wf _ _ _ _ hj
    · rintro i c O1 hh h' ⟨e, hn, hm⟩ m
      refine ⟨m.blk e (fun h => by omega), hn, ?_⟩
      have m' : Mod (fun b => ¬ O1 b ∧ h.size ≤ b) hh h' := m.weak fun b _ hb => ⟨hb.1, by omega⟩
      cases c
      · exact hB.stable _ _ _ _ _ hm m'
      · obtain ⟨hj, k, hk, hj2⟩ := hm
        exact ⟨hj, k, hk, hB.stable _ _ _ _ _ hj2 m'⟩
    · exact ⟨hb1, fun h => by have := hOlt _ h; omega, hJ1⟩
    · rintro i x O1 hh rec kn' kj' hi ⟨e, hn, hm⟩ nO hsz1 hrec hst hkn hkj
      refine New.pair fun b1 h7 eb hb7 x7 hs7 => ?_
      refine ⟨rec, x7.blk hrec (by simp), hst, ?_⟩
      generalize hg : h7.setIfInBounds (h1.size + 1) (.loop { rec with state := .busy }) = h8
      have m8 : Mod (fun b => b = h1.size + 1) h7 h8 := hg ▸ Mod.setObj rfl
      have hl8 : h8[h1.size + 1]? = some (.loop { rec with state := .busy }) := by rw [← hg]; exact setObj_self (by omega)
      have hb8 := m8.blk hb7 (by omega)
      have e8 := m8.blk (x7.blk e (by simp)) (by omega)
      have m08 : Mod (fun b => b = h1.size + 1) hh h8 := (Ext.mod x7).trans m8
      have hj8 : J (liveL (l.take i)).length true O1 h8 := hB.stable _ _ _ _ _ hm (m08.weak fun b _ hb => by subst hb; exact ⟨nO, by omega⟩)
      have htk : liveL (l.take (i + 1)) = liveL (l.take i) ++ liveL [x] := by
        rw [List.take_add_one, hi]; simp [liveL]
      refine Join.mk fun K hK => ?_
      refine LoadB.mk (hget_lit1 hb8 rfl) ?_
      refine PIf.intro (fun hq => ?_) (fun hq => ?_)
      · have hq : (!x.gone) = true := hq
        refine LoadV.mk (hget_lit e8 rfl) ?_
        refine LoadS.mk (hget_lit hb8 rfl) (LoadS.mk (hget_lit1 hb8 rfl) (LoadB.mk (hget_lit1 hb8 rfl) ?_))
        refine CallV.mono (hY _ _ O1 h8 (filter_at (p := fun x : Pr => !x.gone) hi hq) hj8) ?_
        rintro _ h9 ⟨g, O2, rfl, hsub2, m9, hj9⟩
        refine ⟨g, rfl, hK _ _ ?_⟩
        have hle := filter_len_le (p := fun x : Pr => !x.gone) l (i + 1)
        have hlen : (liveL (l.take (i + 1))).length = (liveL (l.take i)).length + 1 := by
          rw [htk]; simp only [liveL, List.length_append]; simp [hq]
        have e9 := m9.blk e8 hn
        have hn9 : ¬ O2 h.size := fun hc => (hsub2 _ hc).elim hn fun h => by have := m8.size; omega
        have mr : Mod (fun b => O1 b ∨ b = h1.size + 1) hh h9 := (m08.weak fun b _ hb => .inr hb).trans (m9.weak fun b _ hb => .inl hb)
        have hs2 : ∀ b, O2 b → O1 b ∨ hh.size ≤ b := fun b hb => (hsub2 b hb).elim .inl fun h => .inr (by have := m8.size; omega)
        refine PIf.intro (fun hg => hkj none h9 ?_) (fun hg => hkn h9 ?_)
        · have hg : g = false := by simpa using hg
          subst hg
          exact ⟨O2, hs2, mr, m9.blk hl8 nO, e9, hn9, rfl, _, by have := hlen; unfold liveL at *; omega, hj9⟩
        · have hg : g = true := by simpa using hg
          subst hg
          exact ⟨O2, hs2, mr, m9.blk hl8 nO, e9, hn9, by show J _ _ _ _; rw [hlen]; exact hj9⟩
      · have hq : (!x.gone) = false := hq
        refine hK _ _ (PIf.no rfl (hkn h8 ?_))
        refine ⟨O1, fun b hb => .inl hb, m08.weak fun b _ hb => .inr hb, hl8, e8, hn, ?_⟩
        show J _ _ _ _
        have : liveL [x] = [] := by simp at hq; simp [liveL, hq]
        rw [htk, this, List.append_nil]
        exact hj8
    · rintro O' h' ⟨e, hn, hm⟩ md n1 hsub hdf
      refine ⟨hdf, rfl, (liveL l).length, true, O', ?_, ?_, ?_, fun _ => rfl, Nat.le_refl _⟩
      · exact (hx.mod.trans md).then (Mod.setObj (.inr (by omega)))
      · intro b hb; exact (hsub b hb).elim .inl fun h => .inr (by omega)
      · rw [List.take_length] at hm
        exact hB.stable _ _ _ _ _ hm (Mod.setObj ⟨n1, by omega⟩)
    · rintro i j O' h' ⟨e, hn, rfl, k, hk, hm⟩ hi md n1 hsub hdf
      refine ⟨hdf, rfl, k, false, O', ?_, ?_, ?_, (fun h => by cases h), hk⟩
      · exact (hx.mod.trans md).then (Mod.setObj (.inr (by omega)))
      · intro b hb; exact (hsub b hb).elim .inl fun h => .inr (by omega)
      · exact hB.stable _ _ _ _ _ hm (Mod.setObj ⟨n1, by omega⟩)

theorem Live_ok {A : Amb} {h : Heap} {fv : Value} {S : Nat → Prop} {l : List Pr} {R : Value → Heap → Prop} (it : (fv = .nilFunc ∧ l = [] ∧ ∀ c, ¬ S c) ∨ IterV A P fv S h l)
    (H : ∀ fv' h', IterV A P fv' (fun c => S c ∨ c = h.size) h' (liveL l) → Ext h h' → h'.size = h.size + 1 → R fv' h') : HCalls A P f_merge_Live #[fv] h R := by
  refine ok_merge_Live ?_
  unfold F_merge_Live
  refine OneK.mk ?_ (New.mk fun h1 _ hb1 hx hsz => ?_)
  · rcases it with it | it
    · rw [it.1]; rfl
    · exact it.one.1
  · refine H _ h1 (Live1_ok hb1 ?_) hx hsz
    rcases it with it | it
    · exact .inl it
    · exact .inr (it.weak (fun _ => id) (fun b hb => by have := it.1 b hb; omega) (fun b hb => hx.get b (it.1 b hb) (by simp)))

theorem refLive_ok {A : Amb} {h : Heap} {s : Sl} {l : List Pr} {R : Value → Heap → Prop} (v : View PairE h s l) (hl : l.length ≤ 1099511627776)
    (H : ∀ s' h', Own PairE t_api_Pair h' s' (liveL l) → (∀ c, s'.blk = some c → h.size ≤ c) → Ext h h' → R (.slice s'.p s'.len s'.cap) h') : HCalls A P f_wherryref08_Live #[.slice s.p s.len s.cap] h R := by
  refine ok_wherryref08_Live ?_
  unfold F_wherryref08_Live
  refine Loop.rule (fun m x h1 => ∃ (i : Nat) (t : Sl), x = (t, (i : Int), ()) ∧ m = l.length - i ∧ i ≤ l.length ∧ Ext h h1 ∧ Own PairE t_api_Pair h1 t (liveL (l.take i)) ∧ (∀ c, t.blk = some c → h.size ≤ c)) ?_
    ⟨0, ⟨none, 0, 0⟩, rfl, rfl, by omega, Mod.refl, Own.nil, fun c hc => by simp [Sl.blk] at hc⟩
  rintro K m _ h1 ⟨i, t, rfl, rfl, hi, hx, o, hbl⟩ hK
  refine PIf.intro (fun hq => ?_) (fun hq => ?_)
  · have hi' : i < l.length := by simp [v.len] at hq; omega
    have hgi := List.getElem?_eq_getElem hi'
    have htk : liveL (l.take (i + 1)) = liveL (l.take i) ++ liveL [l[i]] := by
      rw [List.take_add_one, hgi]; simp only [liveL, List.filter_append, Option.toList_some]
    refine Join.mk fun K1 hK1 => ?_
    refine (v.ext hx).idx hgi fun a _ c1 => ?_
    refine LoadB.mk c1.pair.2.2 ?_
    refine PIf.intro (fun hq => ?_) (fun hq => ?_)
    · refine (v.ext hx).idx hgi fun a _ c1 => ?_
      refine LoadS.mk (c1.pair.1) (LoadS.mk c1.pair.2.1 (LoadB.mk c1.pair.2.2 ?_))
      have hle := List.length_filter_le (fun x : Pr => !x.gone) (l.take i)
      have hle2 : (liveL (l.take i)).length ≤ i := by unfold liveL; rw [List.length_take] at hle; omega
      refine New.append1 (E := PairE) (x := l[i]) rfl app_pair o (by omega) (by simp [maxLen]; omega) fun s4 h9 o9 m9 bl9 _ => ?_
      refine hK1 _ _ (hK (l.length - (i + 1)) _ _ (by omega) ⟨i + 1, s4, by rw [wrap_succ (by omega)], rfl, by omega, ?_, ?_, ?_⟩)
      · exact hx.then (m9.weak fun c _ hc => .inr (hbl c hc))
      · rw [htk]
        have : liveL [l[i]] = [l[i]] := by simp at hq; simp [liveL, hq]
        rw [this]; exact o9
      · exact fun c hc => (bl9 c hc).elim (hbl c) fun h => Nat.le_trans hx.size h
    · refine hK1 _ _ (hK (l.length - (i + 1)) _ _ (by omega) ⟨i + 1, t, by rw [wrap_succ (by omega)], rfl, by omega, hx, ?_, hbl⟩)
      rw [htk]
      have : liveL [l[i]] = [] := by simp at hq; simp [liveL, hq]
      rw [this, List.append_nil]; exact o
  · have hi' : i = l.length := by simp [v.len] at hq; omega
    subst hi'
    rw [List.take_length] at o
    exact H t h1 o hbl hx

/-! ### the first ones -/
def lowT (vto : ByteArray) (x : Pr) : Bool := decide (vto = ⟨#[]⟩) || sLt x.key vto
def someL (vto : ByteArray) (most : Int) (l : List Pr) : List Pr := (l.takeWhile (lowT vto)).take most.toNat

theorem take_tw {α : Type} {p : α → Bool} : ∀ {l : List α} {i : Nat}, i ≤ (l.takeWhile p).length → (l.takeWhile p).take i = l.take i
  | [], i, _ => by simp
  | y :: l, 0, _ => by simp
  | y :: l, i + 1, h => by
    rw [List.takeWhile_cons] at h ⊢
    split at h
    · rename_i hy
      simp only [hy, if_true, List.take_succ_cons]
      rw [take_tw (by simpa using h)]
    · simp at h

theorem refSome_ok {A : Amb} {h : Heap} {s : Sl} {l : List Pr} {vto : ByteArray} {most : Int} {R : Value → Heap → Prop} (v : View PairE h s l) (hl : l.length ≤ 1099511627776)
    (H : ∀ s' h', Own PairE t_api_Pair h' s' (someL vto most l) → (∀ c, s'.blk = some c → h.size ≤ c) → Ext h h' → R (.slice s'.p s'.len s'.cap) h') : HCalls A P f_wherryref08_Some #[.slice s.p s.len s.cap, .string vto, .int .i64 most] h R := by
  refine ok_wherryref08_Some ?_
  unfold F_wherryref08_Some
  refine Loop.rule (fun m x h1 => ∃ (i : Nat) (t : Sl), x = (t, (i : Int), ()) ∧ m = l.length - i ∧ i ≤ (l.takeWhile (lowT vto)).length ∧ i ≤ most.toNat ∧ Ext h h1 ∧ Own PairE t_api_Pair h1 t (l.take i) ∧ (∀ c, t.blk = some c → h.size ≤ c)) ?_
    ⟨0, ⟨none, 0, 0⟩, rfl, rfl, by omega, by omega, Mod.refl, Own.nil, fun c hc => by simp [Sl.blk] at hc⟩
  rintro K m _ h1 ⟨i, t, rfl, rfl, hi, him, hx, o, hbl⟩ hK
  have hst := takeWhile_step (p := lowT vto) (l := l) hi
  have htl := (List.takeWhile_sublist (l := l) (lowT vto)).length_le
  have hol : t.len = i := by rw [o.len]; simp; omega
  refine Join.mk fun K1 hK1 => ?_
  have hend : (i = most.toNat ∨ i = (l.takeWhile (lowT vto)).length) → K1 (false, ()) h1 := fun e => hK1 _ _ (PIf.no rfl (by
    refine H t h1 ?_ hbl hx
    have : someL vto most l = l.take i := by
      unfold someL
      rcases e with e | e
      · rw [← e]; exact take_tw hi
      · rw [List.take_of_length_le (by omega), ← take_tw hi, e, List.take_length]
    rw [this]; exact o))
  refine PIf.intro (fun hq => ?_) (fun hq => ?_)
  · have hi' : i < l.length := by simp [v.len] at hq; omega
    have hgi := List.getElem?_eq_getElem hi'
    refine PIf.intro (fun hq2 => ?_) (fun hq2 => ?_)
    · have hm2 : (i : Int) < most := by simp [hol] at hq2; exact hq2
      have hgo : lowT vto l[i] = true → K1 (true, ()) h1 := fun hp => hK1 _ _ (PIf.yes rfl (by
        have := hst.1 _ hgi hp
        refine (v.ext hx).idx hgi fun a _ c1 => ?_
        refine LoadS.mk (c1.pair.1) (LoadS.mk c1.pair.2.1 (LoadB.mk c1.pair.2.2 ?_))
        have hle2 : (l.take i).length = i := by simp; omega
        refine New.append1 (E := PairE) (x := l[i]) rfl app_pair o (by omega) (by simp [maxLen]; omega) fun s4 h9 o9 m9 bl9 _ => ?_
        refine hK (l.length - (i + 1)) _ _ (by omega) ⟨i + 1, s4, by rw [wrap_succ (by omega)], rfl, by omega, by omega, ?_, ?_, ?_⟩
        · exact hx.then (m9.weak fun c _ hc => .inr (hbl c hc))
        · rw [List.take_add_one, hgi]; exact o9
        · exact fun c hc => (bl9 c hc).elim (hbl c) fun h => Nat.le_trans hx.size h))
      rw [sEq_iff]
      refine PIf.intro (fun he => ?_) (fun he => ?_)
      · exact hgo (by simp at he; simp [lowT, he])
      · refine (v.ext hx).idx hgi fun a _ c1 => ?_
        refine LoadS.mk (c1.pair.1) ?_
        cases hs : sLt l[i].key vto
        · exact hend (.inr (hst.2.1 _ hgi (by simp at he; simp [lowT, he, hs])))
        · exact hgo (by simp [lowT, hs])
    · exact hend (.inl (by simp [hol] at hq2; omega))
  · have hi' : i = l.length := by simp [v.len] at hq; omega
    exact hend (.inr (hst.2.2 (List.getElem?_eq_none (by omega))))

theorem Some_ok {A : Amb} {h : Heap} {fv : Value} {S : Nat → Prop} {l : List Pr} {vto : ByteArray} {most : Int} {R : Value → Heap → Prop} (it : (fv = .nilFunc ∧ l = []) ∨ IterV A P fv S h l) (hl : l.length ≤ 1099511627776)
    (H : ∀ s' h', Own PairE t_api_Pair h' s' (someL vto most l) → (∀ c, s'.blk = some c → h.size ≤ c) → Ext h h' → R (.slice s'.p s'.len s'.cap) h') : HCalls A P f_merge_Some #[fv, .string vto, .int .i64 most] h R := by
  refine ok_merge_Some ?_
  unfold F_merge_Some
  refine New.mk fun h1 _ hb1 hx1 hsz1 => New.mk fun h2 _ hb2 hx2 hsz2 => New.mk fun h3 _ hb3 hx3 hsz3 => ?_
  have hx : Ext h h3 := (hx1.trans hx2).trans hx3
  have hbv : h3[h.size]? = some (.cells #[.string vto] t_string (0, 0)) := hx3.blk (hx2.blk hb1 (by simp)) (by simp)
  have hbm : h3[h1.size]? = some (.cells #[.int .i64 most] t_int (0, 0)) := hx3.blk hb2 (by simp)
  refine Join.mk fun K hK => ?_
  have hnil : someL vto most l = [] → K (true, ()) h3 := fun e => hK _ _ (PIf.yes rfl (H ⟨none, 0, 0⟩ h3 (e ▸ Own.nil) (fun c hc => by simp [Sl.blk] at hc) hx))
  rcases it with ⟨rfl, rfl⟩ | it
  · exact ⟨trivial, PIf.yes rfl (hnil (by simp [someL]))⟩
  refine ⟨it.one.2.1, PIf.no it.one.2.2 ?_⟩
  refine LoadI.mk (hget_lit hbm rfl) ?_
  cases hmost : decide (most ≤ 0)
  · refine hK _ _ (PIf.no rfl ?_)
    have hmost : 0 < most := by simpa using hmost
    have hmd : ∀ h' : Heap, Mod (fun c => c = h2.size) h3 h' → Ext h h' := fun h' m => hx.then (m.weak fun c _ hc => .inr (by omega))
    have htl := (List.takeWhile_sublist (l := l) (lowT vto)).length_le
    refine range_iter it (fun b hb => hx.get b (it.1 b hb) (by simp))
      (fun i c O hh => hh[h.size]? = some (.cells #[.string vto] t_string (0, 0)) ∧ hh[h1.size]? = some (.cells #[.int .i64 most] t_int (0, 0)) ∧ ∃ (s : Sl) (acc : List Pr), hh[h2.size]? = some (.cells #[.slice s.p s.len s.cap] t_sl_api_Pair (0, 0)) ∧ Own PairE t_api_Pair hh s acc ∧ (∀ b, O b ↔ (b = h2.size ∨ s.blk = some b)) ∧ (∀ b, s.blk = some b → b < hh.size ∧ h2.size < b) ∧ match c with
        | none => acc = l.take i ∧ i ≤ (l.takeWhile (lowT vto)).length ∧ (i : Int) < most
        | some j => j = some 0 ∧ acc = someL vto most l)
      (fun b => b = h2.size) (fun b hb e => by have := it.1 b hb; omega) ?_ ?_ ?_ ?_ ?_ ?_
    · rintro i c O hh ⟨_, _, s, acc, h2, o, hO, hlt, _⟩ b hb
      rcases (hO b).1 hb with rfl | h3
      · exact blk_lt h2
      · exact (hlt b h3).1
    · rintro i c O hh h' ⟨e1, e2, s, acc, hk2, o, hO, hlt, hm⟩ m
      refine ⟨m.blk e1 (fun h => by omega), m.blk e2 (fun h => by omega), s, acc, m.blk hk2 (fun hn => hn.1 ((hO _).2 (.inl rfl))), o.mod m (fun c hc hn => hn.1 ((hO _).2 (.inr hc))), hO, fun b hb => ⟨?_, (hlt b hb).2⟩, hm⟩
      have := m.size; have := (hlt b hb).1; omega
    · exact ⟨hbv, hbm, ⟨none, 0, 0⟩, [], hb3, Own.nil, fun b => by simp [Sl.blk], fun b hb => by simp [Sl.blk] at hb, by simp, by omega, by simpa using hmost⟩
    · rintro i x O1 hh rec kn' kj' hi ⟨e1, e2, s, acc, hk2, o, hO, hlt, rfl, htw, him⟩ nO hsz1 hrec hst hkn hkj
      have hil := (List.getElem?_eq_some_iff.1 hi).1
      have hst2 := takeWhile_step (p := lowT vto) (l := l) htw
      refine New.pair fun b1 h7 eb hb7 x7 hs7 => ?_
      refine ⟨rec, x7.blk hrec (by simp), hst, ?_⟩
      generalize hg : h7.setIfInBounds (h3.size + 1) (.loop { rec with state := .busy }) = h8
      have m8 : Mod (fun b => b = h3.size + 1) h7 h8 := hg ▸ Mod.setObj rfl
      have hl8 : h8[h3.size + 1]? = some (.loop { rec with state := .busy }) := by rw [← hg]; exact setObj_self (by omega)
      have hb8 := m8.blk hb7 (by omega)
      have e18 := m8.blk (x7.blk e1 (by simp)) (by omega)
      have e28 := m8.blk (x7.blk e2 (by simp)) (by omega)
      have m08 : Mod (fun b => b = h3.size + 1) hh h8 := (Ext.mod x7).trans m8
      have hk28 := m8.blk (x7.blk hk2 (by simp)) (by omega)
      have hlt1 := blk_lt hk2
      have o8 := (o.ext x7).mod m8 (fun c hc e => nO ((hO _).2 (.inr (e ▸ hc))))
      have hs8 := m8.size
      have hlen : (l.take i).length = i := by simp; omega
      refine Join.mk fun K1 hK1 => ?_
      have hstop : lowT vto x = false → K1 (true, ()) h8 := fun hp => hK1 _ _ (PIf.yes rfl (hkj _ _ (by
        refine ⟨O1, fun b hb => .inl hb, m08.weak fun b _ hb => .inr hb, hl8, e18, e28, s, l.take i, hk28, o8, hO, fun b hb => ⟨?_, (hlt b hb).2⟩, rfl, ?_⟩
        · have := (hlt b hb).1; omega
        · have := hst2.2.1 _ hi hp
          have e1 : (l.takeWhile (lowT vto)).take i = l.takeWhile (lowT vto) := List.take_of_length_le (by omega)
          have e2 : (l.takeWhile (lowT vto)).take most.toNat = l.takeWhile (lowT vto) := List.take_of_length_le (by omega)
          unfold someL
          rw [e2, ← take_tw htw, e1])))
      have hgo : lowT vto x = true → K1 (false, ()) h8 := fun hp => hK1 _ _ (PIf.no rfl (by
        have hlt2 := hst2.1 _ hi hp
        refine LoadL.mk (hget_lit hk28 rfl) (LoadS.mk (hget_lit hb8 rfl) (LoadS.mk (hget_lit1 hb8 rfl) (LoadB.mk (hget_lit1 hb8 rfl) ?_)))
        refine New.append1 (E := PairE) (x := x) rfl app_pair o8 (by rw [hlen]; omega) (by rw [hlen]; simp [maxLen]; omega) fun s4 h9 o9 m9 bl9 _ => ?_
        have hbl : s.blk ≠ some h2.size := fun e => by have := hlt _ e; omega
        refine Store.mk (m9.blk hk28 hbl) (by simp) fun h10 hb10 m10 hs10 => ?_
        have hsz9 := m9.size
        have hb10' : h10[h2.size]? = some (.cells #[.slice s4.p s4.len s4.cap] t_sl_api_Pair (0, 0)) := by simpa using hb10
        have o10 := o9.mod m10 (fun c hc e => by
          rcases bl9 c hc with h3 | h3
          · have := hlt _ h3; omega
          · omega)
        have e110 := m10.blk (m9.blk e18 (fun e => by have := hlt _ e; omega)) (by omega)
        have e210 := m10.blk (m9.blk e28 (fun e => by have := hlt _ e; omega)) (by omega)
        have hacc : l.take i ++ [x] = l.take (i + 1) := by rw [List.take_add_one, hi]; rfl
        rw [hacc] at o10
        have r1 : ∀ b, (b = h2.size ∨ s4.blk = some b) → O1 b ∨ hh.size ≤ b := by
          rintro b (rfl | hb)
          · exact .inl ((hO _).2 (.inl rfl))
          · rcases bl9 b hb with h3 | h3
            · exact .inl ((hO _).2 (.inr h3))
            · exact .inr (by omega)
        have r2 : Mod (fun b => O1 b ∨ b = h3.size + 1) hh h10 :=
          ((m08.weak fun b _ hb => .inr hb).trans (m9.weak fun b _ hb => .inl ((hO _).2 (.inr hb)))).trans (m10.weak fun b _ hb => .inl ((hO _).2 (.inl hb)))
        have r3 := m10.blk (m9.blk hl8 (fun e => nO ((hO _).2 (.inr e)))) (by omega)
        have r4 : ∀ b, s4.blk = some b → b < h10.size ∧ h2.size < b := by
          intro b hb
          have hbs : b < h9.size := by
            rcases o9.row with ⟨rfl, _⟩ | ⟨g, cur, hp, hgg, _⟩
            · simp [Sl.blk] at hb
            · simp [Sl.blk, hp] at hb; subst hb; exact blk_lt hgg
          refine ⟨by omega, ?_⟩
          rcases bl9 b hb with h3 | h3
          · exact (hlt _ h3).2
          · omega
        refine LoadL.mk (hget_lit hb10' rfl) (LoadI.mk (hget_lit e210 rfl) ?_)
        have hs4 : s4.len = i + 1 := by rw [o10.len]; simp; omega
        refine PIf.intro (fun hq => hkj _ _ ?_) (fun hq => hkn _ ?_)
        · refine ⟨_, r1, r2, r3, e110, e210, s4, _, hb10', o10, fun _ => Iff.rfl, r4, rfl, ?_⟩
          have hq : ((i + 1 : Nat) : Int) = most := by rw [hs4] at hq; simpa using hq
          unfold someL
          rw [← hq, Int.toNat_natCast, take_tw (by omega)]
        · refine ⟨_, r1, r2, r3, e110, e210, s4, _, hb10', o10, fun _ => Iff.rfl, r4, rfl, by omega, ?_⟩
          have hq : ((i + 1 : Nat) : Int) ≠ most := by rw [hs4] at hq; simpa using hq
          omega))
      refine LoadS.mk (hget_lit e18 rfl) ?_
      rw [sEq_iff]
      refine PIf.intro (fun he => ?_) (fun he => ?_)
      · refine LoadS.mk (hget_lit hb8 rfl) (LoadS.mk (hget_lit e18 rfl) ?_)
        show K1 (!sLt x.key vto, ()) h8
        cases hs : sLt x.key vto
        · exact hstop (by simp at he; simp [lowT, he, hs])
        · exact hgo (by simp [lowT, hs])
      · exact hgo (by simp at he; simp [lowT, he])
    · rintro O' h' ⟨_, _, s, acc, hk2, o, hO, hlt, rfl, htw, him⟩ md n1 hsub hdf
      have hsz' := md.size
      refine LoadL.mk (hget_lit hk2 rfl) ⟨hdf, ?_⟩
      have : someL vto most l = l.take l.length := by
        unfold someL
        rw [List.take_of_length_le (by omega), ← take_tw htw, List.take_of_length_le (by omega)]
      rw [← this] at o
      refine H s _ (o.mod (Mod.setObj (S := fun c => c = h3.size) rfl) fun c hc e => n1 ((hO _).2 (.inr (e ▸ hc)))) (fun c hc => by have := hlt _ hc; omega) ?_
      exact (hmd h' md).then (Mod.setObj (.inr (by omega)))
    · rintro i j O' h' ⟨_, _, s, acc, hk2, o, hO, hlt, rfl, rfl⟩ hi md n1 hsub hdf
      have hsz' := md.size
      refine LoadL.mk (hget_lit hk2 rfl) ⟨hdf, ?_⟩
      refine H s _ (o.mod (Mod.setObj (S := fun c => c = h3.size) rfl) fun c hc e => n1 ((hO _).2 (.inr (e ▸ hc)))) (fun c hc => by have := hlt _ hc; omega) ?_
      exact (hmd h' md).then (Mod.setObj (.inr (by omega)))
  · refine hnil ?_
    have : most.toNat = 0 := by simp at hmost; omega
    simp [someL, this]
end Go.Lf.G
