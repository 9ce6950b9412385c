/-
  The statements about merged sequences that are left early, and about their keys, over the formulas.
-/
import Derived.Test.YtdaodhcpiafgfaaLfM7
set_option maxRecDepth 100000
namespace Go.Lf.G
open Go

theorem range_iter_s {A : Amb} {P : Program} {fv : Value} {S : Nat → Prop} {h0 h : Heap} {l : List Pr} (it : IterV A P fv S h0 l) (hS : ∀ b, S b → h[b]? = h0[b]?)
    (Inv : Nat → Option (Option Nat) → (Nat → Prop) → Heap → Prop) (O : Nat → Prop) (Fin : Heap → Prop) (hd : ∀ b, S b → ¬ O b)
    {body : TyA [.agg [.str, .str, .bool]] → Nat → Heap → (Heap → Prop) → (Option Nat → Heap → Prop) → Prop} {kn : Heap → Prop} {kj : Option Nat → Heap → Prop}
    (wf : ∀ i c O hh, Inv i c O hh → ∀ b, O b → b < hh.size)
    (stable : ∀ i c O hh h', Inv i c O hh → Mod (fun b => ¬ O b ∧ h.size ≤ b) hh h' → Inv i c O h')
    (init : Inv 0 none O h)
    (round : ∀ i x O1 hh rec kn' kj', l[i]? = some x → Inv i none O1 hh → ¬ O1 (h.size + 1) → h.size + 1 < hh.size → hh[h.size + 1]? = some (.loop rec) → rec.state = .ready →
      (∀ h', RoundEnd (h.size + 1) rec hh O1 (Inv (i + 1) none) h' → kn' h') → (∀ j h', RoundEnd (h.size + 1) rec hh O1 (Inv (i + 1) (some j)) h' → kj' j h') → body (arg1 x) (h.size + 1) hh kn' kj')
    (e1 : ∀ O' h', Inv l.length none O' h' → Mod O h h' → ¬ O' h.size → (∀ b, O' b → O b ∨ h.size ≤ b) → h'[h.size]? = some (.deferred (some [])) → Fin h')
    (e2 : ∀ i j O' h', Inv i (some j) O' h' → i ≤ l.length → Mod O h h' → ¬ O' h.size → (∀ b, O' b → O b ∨ h.size ≤ b) → h'[h.size]? = some (.deferred (some [])) → j = some 0 ∧ Fin h')
    (fin : ∀ h', Fin h' → kn h') (same : ∀ h', kn h' → kj (some 0) h') :
    RangeK A P fv [.agg [.str, .str, .bool]] body h kn kj :=
  range_iter it hS Inv O hd wf stable init round (fun O' h' a b c d e => fin h' (e1 O' h' a b c d e)) fun i j O' h' a b c d e f => by
    obtain ⟨rfl, hf⟩ := e2 i j O' h' a b c d e f
    exact same h' (fin h' hf)

theorem Own.blk_lt' {T : TypeId} {h : Heap} {s : Sl} {l : List Pr} (o : Own PairE T h s l) : ∀ c, s.blk = some c → c < h.size := fun _ hc => o.lt hc

theorem MergeStops_ok {A : Amb} {h : Heap} {s : Sl} {ls : List (List Pr)} {most : Int} {R : Value → Heap → Prop} (v : LV h s ls) (hl : ls.length ≤ 1099511627776) (ht : total ls < 1099511627776) (H : ∀ h', Ext h h' → R (.bool true) h') :
    HCalls A P f_wherrylaw08_MergeStops #[.slice s.p s.len s.cap, .int .i64 most] h R := by
  refine ok_wherrylaw08_MergeStops ?_
  unfold F_wherrylaw08_MergeStops
  refine New.mk fun h1 _ hb1 x1 hs1 => ?_
  refine awake_ok fun h2 x2 => ⟨_, rfl, PIf.no rfl ?_⟩
  have x02 : Ext h h2 := x1.trans x2
  refine ordered_ok (v.ext x02) hl (by omega) fun t h3 v3 x3 => ⟨t, rfl, ?_⟩
  have hto := total_ord ls
  have hrl := refAllL_len (ls.map ordL)
  refine seqs_ok (X := fun c => c < h2.size) v3 (fun c hc => by have := x3.size; omega) (by simpa using hl) (by omega) fun u h4 q4 x4 => ⟨u, rfl, ?_⟩
  refine All_ok q4 (fun c hc => by have := x3.size; have := x4.size; omega) (by simpa using hl) (OkL_ord ls) fun fv h5 it x5 _ => ⟨_, rfl, ?_⟩
  refine refAll_ok ((v3.lv.ext x4).ext x5) (by simpa using hl) (by omega) fun z h6 o6 hz6 x6 => ⟨z, rfl, ?_⟩
  generalize hL : refAllL (ls.map ordL) = L at *
  refine New.mk fun h7 _ hb7 x7 hs7 => ?_
  have x27 : Ext h2 h7 := (((x3.trans x4).trans x5).trans x6).trans x7
  have x07 : Ext h h7 := x02.trans x27
  have hbm : h7[h.size]? = some (.cells #[.int .i64 most] t_int (0, 0)) := x27.blk (x2.blk hb1 (by simp)) (by simp)
  have hsz5 : h5.size ≤ h6.size := x6.size
  have hsz1 : h.size < h6.size := by have := x2.size; have := x3.size; have := x4.size; have := x5.size; omega
  refine range_iter_s it (fun b hb => (x6.trans x7).get b hb.1 (by simp))
    (fun i c O hh => hh[h.size]? = some (.cells #[.int .i64 most] t_int (0, 0)) ∧ ∃ (s : Sl) (acc : List Pr), hh[h6.size]? = some (.cells #[.slice s.p s.len s.cap] t_sl_api_Pair (0, 0)) ∧ Own PairE t_api_Pair hh s acc ∧ (∀ b, O b ↔ (b = h6.size ∨ s.blk = some b)) ∧ (∀ b, s.blk = some b → b < hh.size ∧ h6.size < b) ∧ match c with
      | none => acc = L.take i ∧ i ≤ most.toNat
      | some j => j = some 0 ∧ acc = L.take most.toNat)
    (fun b => b = h6.size)
    (fun h' => Mod (fun b => b = h6.size) h7 h' ∧ h'[h7.size]? = some (.deferred (some [])) ∧ h'[h.size]? = some (.cells #[.int .i64 most] t_int (0, 0)) ∧ ∃ s : Sl, h'[h6.size]? = some (.cells #[.slice s.p s.len s.cap] t_sl_api_Pair (0, 0)) ∧ Own PairE t_api_Pair h' s (L.take most.toNat))
    (fun b hb e => by have := hb.1; omega) ?_ ?_ ?_ ?_ ?_ ?_ ?_ (fun h' h => h)
  · rintro i c O hh ⟨_, s, acc, h2, o, hO, hlt, _⟩ b hb
    rcases (hO b).1 hb with rfl | h3
    · exact blk_lt h2
    · exact (hlt b h3).1
  · rintro i c O hh h' ⟨e1, s, acc, hk2, o, hO, hlt, hm⟩ m
    refine ⟨m.blk e1 (fun h => by omega), s, acc, m.blk hk2 (fun hn => hn.1 ((hO _).2 (.inl rfl))), o.mod m (fun c hc hn => hn.1 ((hO _).2 (.inr hc))), hO, fun b hb => ⟨?_, (hlt b hb).2⟩, hm⟩
    have := m.size; have := (hlt b hb).1; omega
  · exact ⟨hbm, ⟨none, 0, 0⟩, [], hb7, Own.nil, fun b => by simp [Sl.blk], fun b hb => by simp [Sl.blk] at hb, by simp, by omega⟩
  · rintro i x O1 hh rec kn' kj' hi ⟨e1, s, acc, hk2, o, hO, hlt, rfl, him⟩ nO hsz1 hrec hst hkn hkj
    have hil := (List.getElem?_eq_some_iff.1 hi).1
    refine New.pair fun b1 h9 eb hb9 x9 hs9 => ?_
    refine ⟨rec, x9.blk hrec (by simp), hst, ?_⟩
    generalize hg : h9.setIfInBounds (h7.size + 1) (.loop { rec with state := .busy }) = h8
    have m8 : Mod (fun b => b = h7.size + 1) h9 h8 := hg ▸ Mod.setObj rfl
    have hl8 : h8[h7.size + 1]? = some (.loop { rec with state := .busy }) := by rw [← hg]; exact setObj_self (by omega)
    have hb8 := m8.blk hb9 (by omega)
    have e18 := m8.blk (x9.blk e1 (by simp)) (by omega)
    have m08 : Mod (fun b => b = h7.size + 1) hh h8 := (Ext.mod x9).trans m8
    have hk28 := m8.blk (x9.blk hk2 (by simp)) (by omega)
    have hlt1 := blk_lt hk2
    have o8 := (o.ext x9).mod m8 (fun c hc e => nO ((hO _).2 (.inr (e ▸ hc))))
    have hs8 := m8.size
    have hlen : (L.take i).length = i := by simp; omega
    have hsl : s.len = i := by rw [o.len, hlen]
    refine LoadL.mk (hget_lit hk28 rfl) (LoadI.mk (hget_lit e18 rfl) ?_)
    refine PIf.intro (fun hq => hkj _ _ ?_) (fun hq => ?_)
    · have hq : most ≤ (i : Int) := by simpa [hsl] using hq
      refine ⟨O1, fun b hb => .inl hb, m08.weak fun b _ hb => .inr hb, hl8, e18, s, L.take i, hk28, o8, hO, fun b hb => ⟨?_, (hlt b hb).2⟩, rfl, ?_⟩
      · have := (hlt b hb).1; omega
      · have : i = most.toNat := by omega
        rw [this]
    · have hq : (i : Int) < most := by simpa [hsl] using hq
      refine LoadL.mk (hget_lit hk28 rfl) (LoadS.mk (hget_lit hb8 rfl) (LoadS.mk (hget_lit1 hb8 rfl) (LoadB.mk (hget_lit1 hb8 rfl) ?_)))
      refine New.append1 (E := PairE) (x := x) rfl app_pair o8 (by rw [hlen]; omega) (by rw [hlen]; simp [maxLen]; omega) fun s4 h9 o9 m9 bl9 _ => ?_
      have hbl : s.blk ≠ some h6.size := fun e => by have := hlt _ e; omega
      refine Store.mk (m9.blk hk28 hbl) (by simp) fun h10 hb10 m10 hs10 => hkn _ ?_
      have hsz9 := m9.size
      have o10 := o9.mod m10 (fun c hc e => by
        rcases bl9 c hc with h3 | h3
        · have := hlt _ h3; omega
        · omega)
      have hacc : L.take i ++ [x] = L.take (i + 1) := by rw [List.take_add_one, hi]; rfl
      rw [hacc] at o10
      refine ⟨fun b => b = h6.size ∨ s4.blk = some b, ?_, ?_, m10.blk (m9.blk hl8 (fun e => nO ((hO _).2 (.inr e)))) (by omega), m10.blk (m9.blk e18 (fun e => by have := hlt _ e; omega)) (by omega), s4, _, by simpa using hb10, o10, fun _ => Iff.rfl, ?_, rfl, by omega⟩
      · rintro b (rfl | hb)
        · exact .inl ((hO _).2 (.inl rfl))
        · rcases bl9 b hb with h3 | h3
          · exact .inl ((hO _).2 (.inr h3))
          · exact .inr (by omega)
      · exact ((m08.weak fun b _ hb => .inr hb).trans (m9.weak fun b _ hb => .inl ((hO _).2 (.inr hb)))).trans (m10.weak fun b _ hb => .inl ((hO _).2 (.inl hb)))
      · intro b hb
        refine ⟨o10.lt hb, ?_⟩
        rcases bl9 b hb with h3 | h3
        · exact (hlt _ h3).2
        · omega
  · rintro O' h' ⟨e1, s, acc, hk2, o, hO, hlt, rfl, him⟩ md n1 hsub hdf
    refine ⟨md, hdf, e1, s, hk2, ?_⟩
    rw [List.take_length] at o
    rw [List.take_of_length_le him]; exact o
  · rintro i j O' h' ⟨e1, s, acc, hk2, o, hO, hlt, rfl, rfl⟩ hi md n1 hsub hdf
    exact ⟨rfl, md, hdf, e1, s, hk2, o⟩
  · rintro h' ⟨md, hdf, e1, s, hk2, o⟩
    refine LoadL.mk (hget_lit hk2 rfl) (LoadI.mk (hget_lit e1 rfl) ?_)
    have md6 : Ext h6 h' := x7.then (md.weak fun c _ hc => .inr (by omega))
    have hzl := o6.len
    have hzc := o6.view.cap
    have hk : (if ((if (((z.len : Nat) : Int) : Int) < most then ((z.len : Nat) : Int) else most) : Int) > 0 then (if (((z.len : Nat) : Int) : Int) < most then ((z.len : Nat) : Int) else most) else 0) = ((min most.toNat L.length : Nat) : Int) := by
      rw [hzl]
      split <;> split <;> omega
    rw [hk, Int.toNat_natCast]
    refine ⟨by omega, ?_⟩
    have vz := (o6.ext md6).view.sub (lo := 0) (hi := min most.toNat L.length) (by omega) (by omega)
    refine Same_ok (b := ⟨slOff z.p z.cap 0 3, min most.toNat L.length - 0, z.cap - 0⟩) o.view vz (by simp; omega) ⟨_, rfl, ?_⟩
    have he : L.take most.toNat = (L.take (min most.toNat L.length)).drop 0 := by
      rw [List.drop_zero]
      rcases Nat.le_total most.toNat L.length with h1 | h1
      · rw [Nat.min_eq_left h1]
      · rw [Nat.min_eq_right h1, List.take_length, List.take_of_length_le h1]
    rw [decide_eq_true he]
    refine PIf.yes rfl ?_
    refine Collect_ok it (fun b hb => (x6.trans md6).get b hb.1 (by simp)) (by omega) fun w h20 o20 _ x20 => ⟨w, rfl, ?_⟩
    refine Same_ok o20.view ((o6.ext md6).ext x20).view (by omega) ⟨_, rfl, ?_⟩
    rw [decide_eq_true rfl]
    refine ⟨x20.blk hdf (by simp), H _ ?_⟩
    have x6' : Ext h h6 := ((((x02.trans x3).trans x4).trans x5).trans x6)
    exact (x6'.trans (md6.trans x20)).then (Mod.setObj (.inr (by omega)))

theorem refAllL_mem {ls : List (List Pr)} {x : Pr} (o : OkL ls) (h : x ∈ refAllL ls) : findLs x.key ls = some x := by
  rw [← refAllL_find _ o]; exact (refAllL_sorted ls).find h

theorem good_key {x : Pr} (h : wrongP x = 0) : sLt ⟨#[]⟩ x.key = true := by
  have h1 : x.key ≠ ⟨#[]⟩ := by
    intro e
    simp [wrongP, e] at h
  cases h2 : sLt ⟨#[]⟩ x.key
  · cases h3 : sLt x.key ⟨#[]⟩
    · exact absurd (sLt_tri h3 h2) h1
    · have : ∀ l : List UInt8, Op.bytesLess l [] = false := fun l => by cases l <;> rfl
      have e : (⟨#[]⟩ : ByteArray).toList = [] := by simp [ByteArray.toList_eq]
      simp [sLt, e, this] at h3
  · rfl

theorem findK_take {k : ByteArray} {l : List Pr} {n : Nat} {q : Pr} (h : l[n]? = some q) (hn : findK k (l.take n) = none) (hq : q.key = k) : findK k l = some q := by
  have hlt := (List.getElem?_eq_some_iff.1 h).1
  have e : l = l.take n ++ q :: l.drop (n + 1) := by
    rw [← (List.getElem?_eq_some_iff.1 h).2, ← List.drop_eq_getElem_cons hlt, List.take_append_drop]
  rw [e]
  unfold findK at hn ⊢
  rw [List.find?_append, hn]
  simp [hq]

theorem findLs_append (k : ByteArray) (ls ms : List (List Pr)) : findLs k (ls ++ ms) = (findLs k ls).or (findLs k ms) := by
  unfold findLs; rw [List.findSome?_append]

theorem findK_append (k : ByteArray) (l m : List Pr) : findK k (l ++ m) = (findK k l).or (findK k m) := by
  unfold findK; rw [List.find?_append]

theorem findLs_take {k : ByteArray} {M : List (List Pr)} {n : Nat} {x : Pr} (h : findLs k (M.take n) = some x) : findLs k M = some x := by
  rw [← List.take_append_drop n M, findLs_append, h]; rfl

def Range1 (i : Nat) (L : List Pr) (last : ByteArray) : Prop := ∀ x, L[i]? = some x → sLt last x.key = true

set_option maxHeartbeats 1000000 in
theorem MergeKeys_ok {A : Amb} {h : Heap} {s : Sl} {ls : List (List Pr)} {R : Value → Heap → Prop} (v : LV h s ls) (hl : ls.length ≤ 1099511627776) (ht : total ls < 1099511627776) (H : ∀ h', Ext h h' → R (.bool true) h') :
    HCalls A P f_wherrylaw08_MergeKeys #[.slice s.p s.len s.cap] h R := by
  refine ok_wherrylaw08_MergeKeys ?_
  unfold F_wherrylaw08_MergeKeys
  refine New.mk fun h1 _ hb1 x1 hs1 => ?_
  refine awake_ok fun h2 x2 => ⟨_, rfl, PIf.no rfl ?_⟩
  have x02 : Ext h h2 := x1.trans x2
  refine ordered_ok (v.ext x02) hl (by omega) fun t h4 v4 x4 => ⟨t, rfl, ?_⟩
  have hto := total_ord ls
  have hrl := refAllL_len (ls.map ordL)
  have ho := OkL_ord ls
  have hl' : (ls.map ordL).length ≤ 1099511627776 := by simpa using hl
  generalize hM : ls.map ordL = M at *
  refine New.mk fun h5 _ hb5 x5 hs5 => ?_
  refine Store.mk hb5 (by simp) fun h6 hb6 m6 hs6 => ?_
  refine New.mk fun h7 _ hb7 x7 hs7 => ?_
  refine Store.mk hb7 (by simp) fun h8 hb8 m8 hs8 => ?_
  -- the three variables
  have sz24 := x4.size
  have sz02 := x02.size
  have md48 : Mod (fun c => c = h4.size ∨ c = h6.size) h4 h8 := ((x5.mod.trans (m6.weak fun c _ hc => .inl hc)).trans x7.mod).trans (m8.weak fun c _ hc => .inr hc)
  have x48 : Ext h4 h8 := ⟨md48.size, fun c hc _ => md48.get c hc (by omega)⟩
  have hb1' : h8[h4.size]? = some (.cells #[.slice t.p t.len t.cap] t_sl_sl_api_Pair (0, 0)) := m8.blk (x7.blk (by simpa using hb6) (by simp)) (by omega)
  have hb2' : h8[h6.size]? = some (.cells #[.string (⟨#[]⟩ : ByteArray)] t_string (0, 0)) := by simpa using hb8
  have hb0' : h8[h.size]? = some (.cells #[.bool false] t_bool (0, 0)) := x48.blk (x4.blk (x2.blk hb1 (by simp)) (by simp)) (by simp)
  have v8 : LA (fun c => c < h2.size ∨ c = h4.size ∨ c = h6.size) h8 t M := v4.mod md48 (fun c hc h => by omega) (fun c hc h => by omega)
  refine LoadL.mk (hget_lit hb1' rfl) ?_
  refine seqs_ok (X := fun c => c < h2.size ∨ c = h4.size ∨ c = h6.size) v8 (fun c hc => by omega) hl' (by omega) fun u h9 q9 x9 => ⟨u, rfl, ?_⟩
  have sz89 := x9.size
  refine All_ok q9 (fun c hc => by omega) hl' ho fun fv h10 it x10 _ => ⟨_, rfl, ?_⟩
  have x810 : Ext h8 h10 := x9.trans x10
  have sz810 := x810.size
  have e0 := x810.blk hb0' (by simp)
  have e1 := x810.blk hb1' (by simp)
  have e2 := x810.blk hb2' (by simp)
  have v10 := v8.ext x810
  have hLs := refAllL_sorted M
  have hLg := refAllL_good M
  generalize hL : refAllL M = L at *
  refine range_iter it (fun _ _ => rfl)
    (fun i c O hh => c = none ∧ (∀ b, O b ↔ b = h6.size) ∧ Mod (fun b => b = h6.size) h10 hh ∧ ∃ last, hh[h6.size]? = some (.cells #[.string last] t_string (0, 0)) ∧ Range1 i L last)
    (fun b => b = h6.size) (fun b hb e => hb.2 (.inr (.inr e))) ?_ ?_ ?_ ?_ ?_ ?_
  · rintro i c O hh ⟨_, hO, md, last, hk, _⟩ b hb
    rw [(hO b).1 hb]; exact blk_lt hk
  · rintro i c O hh h' ⟨e, hO, md, last, hk, hr⟩ m
    refine ⟨e, hO, ⟨by have := md.size; have := m.size; omega, fun b hb hn => ?_⟩, last, m.blk hk (fun hn => hn.1 ((hO _).2 rfl)), hr⟩
    exact (m.get b (by have := md.size; omega) (fun h => by omega)).trans (md.get b hb hn)
  · refine ⟨rfl, fun b => Iff.rfl, Mod.refl, _, e2, fun x hx => good_key (hLg x (List.mem_of_getElem? hx))⟩
  · rintro i p O1 hh rec kn' kj' hi ⟨_, hO, md, last, hk, hr⟩ nO hsz1 hrec hst hkn hkj
    have hlast := hr p hi
    have hpf : findLs p.key M = some p := by
      have := refAllL_mem ho (hL.symm ▸ List.mem_of_getElem? hi : p ∈ refAllL M); exact this
    have szd := md.size
    refine New.pair fun b3 h16 eb hb16 x16 hs16 => ?_
    refine ⟨rec, x16.blk hrec (by simp), hst, ?_⟩
    generalize hg : h16.setIfInBounds (h10.size + 1) (.loop { rec with state := .busy }) = h17
    have m17 : Mod (fun b => b = h10.size + 1) h16 h17 := hg ▸ Mod.setObj rfl
    have hl17 : h17[h10.size + 1]? = some (.loop { rec with state := .busy }) := by rw [← hg]; exact setObj_self (by omega)
    have hb17 := m17.blk hb16 (by omega)
    have md17 : Mod (fun b => b = h10.size + 1) hh h17 := (Ext.mod x16).trans m17
    have hk17 := md17.blk hk (by omega)
    refine LoadS.mk (hget_lit hb17 rfl) (LoadS.mk (hget_lit hk17 rfl) ?_)
    refine PIf.no ?_ ?_
    · rw [sEq_iff]
      have h1 := sLt_asymm hlast
      have h2 := lt_ne hlast
      show (sLt p.key last || decide (p.key = last)) = false
      rw [h1, decide_eq_false (fun e => h2 e.symm)]; rfl
    refine LoadS.mk (hget_lit hb17 rfl) ?_
    refine Store.mk hk17 (by simp) fun h18 hb18 m18 hs18 => ?_
    have hb18p : h18[b3]? = some (.cells #[.string p.key, .string p.val, .bool p.gone] t_api_Pair (0, 0)) := m18.blk hb17 (by have := blk_lt hk; omega)
    have hl18 := m18.blk hl17 (by omega)
    have md18 : Mod (fun b => b = h6.size ∨ b = h10.size + 1) hh h18 := (md17.weak fun b _ hb => .inr hb).trans (m18.weak fun b _ hb => .inl hb)
    have mdA : Mod (fun b => b = h6.size) h10 h18 := ⟨by have := md18.size; omega, fun b hb hn => (md18.get b (by omega) (by omega)).trans (md.get b hb hn)⟩
    have v18 : LV h18 t M := (v10.mod (X' := fun c => c < h2.size ∨ c = h4.size ∨ c = h6.size) mdA (fun c _ hc => .inr (.inr hc)) (fun _ _ h => h)).lv
    have e118 : h18[h4.size]? = some (.cells #[.slice t.p t.len t.cap] t_sl_sl_api_Pair (0, 0)) := mdA.blk e1 (by omega)
    refine LoadL.mk (hget_lit e118 rfl) ?_
    obtain ⟨sls, vv, hsl, hrow⟩ := v18
    have hmd18 := md18.size
    -- what a round leaves
    have hdone : ∀ h19, Ext h18 h19 → kn' h19 := fun h19 x19 => hkn h19 (by
      refine ⟨fun b => b = h6.size, fun b hb => .inl ((hO b).2 hb), ?_, x19.blk hl18 (by simp), rfl, fun _ => Iff.rfl, mdA.trans x19.mod, p.key, x19.blk (by simpa [arg1] using hb18) (by simp), fun y hy => ?_⟩
      · refine (md18.weak fun b _ hb => ?_).trans x19.mod
        rcases hb with hb | hb
        · exact .inl ((hO b).2 hb)
        · exact .inr hb
      · have hi1 := List.getElem?_eq_some_iff.1 hi
        have hy1 := List.getElem?_eq_some_iff.1 hy
        have := List.pairwise_iff_getElem.1 hLs i (i + 1) hi1.1 hy1.1 (by omega)
        rw [hi1.2, hy1.2] at this
        exact this)
    refine Loop.rule (fun m x h19 => ∃ (n : Nat), x = ((findLs p.key (M.take n)).isSome, (n : Int), ()) ∧ m = M.length - n ∧ n ≤ M.length ∧ Ext h18 h19) ?_ ⟨0, rfl, rfl, by omega, Mod.refl⟩
    rintro K m _ h19 ⟨n, rfl, rfl, hn, x19⟩ hK
    refine PIf.intro (fun hq => ?_) (fun hq => ?_)
    · have hn' : n < M.length := by simp [vv.len] at hq; omega
      have hgs := List.getElem?_eq_getElem (l := sls) (i := n) (by omega)
      have hgl := List.getElem?_eq_getElem hn'
      have hv := hrow n _ _ hgs hgl
      refine (vv.ext x19).idx hgs fun a _ c1 => ?_
      refine LoadL.mk c1.sl ?_
      have hlb : M[n].length ≤ 1099511627776 := by have := mem_total (List.getElem_mem hn'); omega
      have hstep : ∀ h20, Ext h18 h20 → K ((findLs p.key (M.take (n + 1))).isSome, (IntKind.wrap .i64 ((n : Int) + (1 : Int))), ()) h20 := fun h20 x20 =>
        hK (M.length - (n + 1)) _ _ (by omega) ⟨n + 1, by rw [wrap_succ (by omega)], rfl, by omega, x20⟩
      have htk : ∀ b, findLs p.key (M.take (n + 1)) = b → findLs p.key (M.take n ++ [M[n]]) = b := fun b e => by rw [← e, List.take_add_one, hgl]; rfl
      have hfs : findLs p.key (M.take (n + 1)) = (findLs p.key (M.take n)).or (findK p.key M[n]) := by
        rw [List.take_add_one, hgl, Option.toList_some, findLs_append, findLs_cons]
        have : findLs p.key ([] : List (List Pr)) = none := rfl
        rw [this, Option.or_none]
      refine Loop.rule (fun m x h20 => ∃ (k : Nat), x = (((findLs p.key (M.take n)).or (findK p.key (M[n].take k))).isSome, (k : Int), ()) ∧ m = M[n].length - k ∧ k ≤ M[n].length ∧ Ext h18 h20) ?_
        ⟨0, by simp [findK_nil], rfl, by omega, x19⟩
      rintro K1 m _ h20 ⟨k, rfl, rfl, hk, x20⟩ hK1
      refine PIf.intro (fun hq => ?_) (fun hq => ?_)
      · have hk' : k < M[n].length := by simp [hv.len] at hq; omega
        have hgk := List.getElem?_eq_getElem hk'
        have hfk : findK p.key (M[n].take (k + 1)) = (findK p.key (M[n].take k)).or (if M[n][k].key = p.key then some M[n][k] else none) := by
          rw [List.take_add_one, hgk, Option.toList_some, findK_append, findK_cons, findK_nil]
        refine Join.mk fun K2 hK2 => ?_
        have hnext : ∀ (b : Bool) h21, Ext h18 h21 → b = ((findLs p.key (M.take n)).or (findK p.key (M[n].take (k + 1)))).isSome → K2 (b, ()) h21 := fun b h21 x21 e =>
          hK2 _ _ (by
            subst e
            exact hK1 (M[n].length - (k + 1)) _ _ (by omega) ⟨k + 1, by rw [wrap_succ (by omega)], rfl, by omega, x21⟩)
        refine (hv.ext x20).idx hgk fun a1 _ c1 => ?_
        refine LoadS.mk c1.pair.1 (LoadS.mk c1.pair.2.1 (LoadB.mk c1.pair.2.2 ?_))
        refine New.pair fun b4 h25 eb4 hb25 x25 hs25 => ?_
        have x1825 : Ext h18 h25 := x20.trans x25
        have hp25 := x1825.blk hb18p (by simp)
        refine Join.mk fun K3 hK3 => ?_
        have hno : ((findLs p.key (M.take n)).or (findK p.key (M[n].take k))).isSome = ((findLs p.key (M.take n)).or (findK p.key (M[n].take (k + 1)))).isSome → K3 (false, ()) h25 := fun e => hK3 _ _ (PIf.no rfl (hnext _ _ x1825 e))
        refine PIf.intro (fun hq => ?_) (fun hq => ?_)
        · have hnone : (findLs p.key (M.take n)).or (findK p.key (M[n].take k)) = none := by
            simpa using hq
          refine LoadS.mk (hget_lit hb25 rfl) (LoadS.mk (hget_lit hp25 rfl) ?_)
          rw [sEq_iff]
          by_cases hkey : M[n][k].key = p.key
          · have h1 : findLs p.key (M.take n) = none := (Option.or_eq_none_iff.1 hnone).1
            have h2 : findK p.key (M[n].take k) = none := (Option.or_eq_none_iff.1 hnone).2
            have h3 := findK_take hgk h2 hkey
            have h4 : findLs p.key M = some M[n][k] := findLs_take (by rw [hfs, h1, h3]; rfl)
            have hqp : M[n][k] = p := by rw [hpf] at h4; exact (Option.some.inj h4).symm
            rw [decide_eq_true hkey]
            refine hK3 _ _ (PIf.yes rfl ?_)
            refine LoadS.mk (hget_lit hb25 rfl) (LoadS.mk (hget_lit1 hb25 rfl) (LoadB.mk (hget_lit1 hb25 rfl) ?_))
            refine LoadS.mk (hget_lit hp25 rfl) (LoadS.mk (hget_lit1 hp25 rfl) (LoadB.mk (hget_lit1 hp25 rfl) ?_))
            refine neqPair ⟨_, rfl, ?_⟩
            rw [decide_eq_true hqp]
            refine PIf.no rfl (hnext _ _ x1825 ?_)
            rw [hfk, h2, if_pos hkey, h1]; rfl
          · rw [decide_eq_false hkey]
            refine hno ?_
            rw [hfk, if_neg hkey, Option.or_none]
        · have hsome : ((findLs p.key (M.take n)).or (findK p.key (M[n].take k))).isSome = true := by
            have hq2 : (!((findLs p.key (M.take n)).or (findK p.key (M[n].take k))).isSome) = false := hq
            simpa only [Bool.not_eq_false'] using hq2
          refine hno ?_
          rw [hsome, hfk, ← Option.or_assoc, Option.isSome_or, hsome]; rfl
      · have hk' : k = M[n].length := by simp [hv.len] at hq; omega
        rw [hk', List.take_length, ← hfs]
        exact hstep h20 x20
    · have hn' : n = M.length := by simp [vv.len] at hq; omega
      rw [hn', List.take_length, hpf]
      refine PIf.no rfl ?_
      exact hdone h19 x19
  · rintro O' h' ⟨_, hO, md, last, hk, _⟩ _ n1 hsub hdf
    have sz1 := md.size
    have hb0 : h'[h.size]? = some (.cells #[.bool false] t_bool (0, 0)) := md.blk e0 (by omega)
    have hb1 : h'[h4.size]? = some (.cells #[.slice t.p t.len t.cap] t_sl_sl_api_Pair (0, 0)) := md.blk e1 (by omega)
    have v11 : LA (fun c => c < h2.size ∨ c = h4.size ∨ c = h6.size) h' t M := v10.mod md (fun c _ hc => .inr (.inr hc)) (fun _ _ h => h)
    refine LoadL.mk (hget_lit hb1 rfl) ?_
    refine seqs_ok v11 (fun c hc => by omega) hl' (by omega) fun u2 h32 q32 x32 => ⟨u2, rfl, ?_⟩
    have sz32 := x32.size
    refine All_ok q32 (fun c hc => by omega) hl' ho fun f33 h33 it33 x33 _ => ⟨_, rfl, ?_⟩
    refine Live_ok (.inr it33) fun f34 h34 it34 x34 _ => ⟨_, rfl, ?_⟩
    have hll : (liveL (refAllL M)).length ≤ 1099511627776 := by have := List.length_filter_le (fun x : Pr => !x.gone) (refAllL M); rw [hL] at this ⊢; unfold liveL; omega
    refine Collect_ok it34 (fun _ _ => rfl) hll fun w35 h35 o35 _ x35 => ⟨w35, rfl, ?_⟩
    have xa : Ext h' h33 := x32.trans x33
    have xb : Ext h' h34 := xa.trans x34
    have xc : Ext h' h35 := xb.trans x35
    refine LoadL.mk (s := t) (hget_lit (xc.blk hb1 (by simp)) rfl) ⟨hget_lit (xb.blk hb1 (by simp)) rfl, hget_lit (xa.blk hb1 (by simp)) rfl, hget_lit (x32.blk hb1 (by simp)) rfl, hget_lit hb1 rfl, ?_⟩
    refine refAll_ok (v11.ext xc).lv hl' (by omega) fun w36 h36 o36 _ x36 => ⟨w36, rfl, ?_⟩
    refine refLive_ok o36.view (by rw [hL]; omega) fun w37 h37 o37 _ x37 => ⟨w37, rfl, ?_⟩
    refine Same_ok (o35.ext (x36.trans x37)).view o37.view hll ⟨_, rfl, ?_⟩
    rw [decide_eq_true rfl]
    have xd : Ext h' h37 := xc.trans (x36.trans x37)
    refine Store.mk (xd.blk hb0 (by simp)) (by simp) fun h39 hb39 m39 hs39 => ?_
    have sz37 := xd.size
    refine ⟨m39.blk (xd.blk hdf (by simp)) (by omega), ?_⟩
    have hb40 : (h39.setIfInBounds h10.size (.deferred none))[h.size]? = some (.cells #[.bool true] t_bool (0, 0)) := by
      rw [Array.getElem?_setIfInBounds_ne (by omega)]; simpa using hb39
    refine LoadB.mk (hget_lit hb40 rfl) (H _ ?_)
    -- of what was before the call nothing has changed
    have y8 : Ext h h8 := (x02.trans x4).trans x48
    have y10 : Ext h h10 := y8.trans x810
    have y11 : Ext h h' := y10.then (md.weak fun c _ hc => .inr (by omega))
    exact ((y11.trans xd).then (m39.weak fun c _ hc => .inr (by omega))).then (Mod.setObj (.inr (by have := y10.size; omega)))
  · rintro i j O' h' ⟨e, _⟩
    cases e
end Go.Lf.G
