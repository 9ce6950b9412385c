/-
  The statement MemLast over the formulas.
-/
import Derived.Test.YtdaodhcpiafgfaaLfM14
set_option maxRecDepth 100000
namespace Go.Lf.G
open Go

theorem loadM {h : Heap} {a : Addr} {K : Option Nat → Prop} {n : Option Nat} (hv : hget h a = some (.map n)) (H : K n) : LoadM h a K := ⟨n, hv, H⟩

set_option maxHeartbeats 1000000 in
theorem MemLast_ok {A : Amb} {h : Heap} {s : Sl} {l : List Pr} {R : Value → Heap → Prop} (v : View PairE h s l) (hl : l.length < 1099511627776) (H : ∀ h', Ext h h' → R (.bool true) h') :
    HCalls A P f_wherrylaw05_MemLast #[.slice s.p s.len s.cap] h R := by
  refine ok_wherrylaw05_MemLast ?_
  unfold F_wherrylaw05_MemLast
  refine New.mk fun h1 _ hb1 x1 hs1 => ?_
  refine awake05_ok fun h2 x2 => ⟨_, rfl, PIf.no rfl ?_⟩
  have x02 : Ext h h2 := x1.trans x2
  have sz2 := x2.size
  refine New_ok fun h4 T4 x4 hs4 => ⟨_, rfl, ?_⟩
  refine New.mk fun h5 _ hb5 x5 hs5 => New.mk fun h6 _ hb6 x6 hs6 => ?_
  refine Store.mk hb6 (by simp) fun h7 hb7 m7 hs7 => ?_
  have x27 : Ext h2 h7 := (((x4.trans x5).trans x6)).then (m7.weak fun c _ hc => .inr (by omega))
  have x57 : Ext h5 h7 := x6.then (m7.weak fun c _ hc => .inr (by omega))
  have hmap0 : MapIs h7 h4.size [] := ⟨#[], 0, x57.blk hb5 (by simp), rfl⟩
  refine Loop.rule (fun mm x h8 => ∃ (i : Nat) (ns : List SNode) (m : List (ByteArray × Value)), x = ((i : Int), ()) ∧ mm = l.length - i ∧ i ≤ l.length ∧ Ext h2 h8 ∧ Tab h8 h2.size ns (putsL [] (l.take i)) ∧ (∀ b, inT h2.size ns b → h2.size ≤ b ∧ b ≠ h4.size ∧ b ≠ h5.size) ∧
      h8[h5.size]? = some (.cells #[.map (some h4.size)] t_map_string_api_Pair (0, 0)) ∧ MapIs h8 h4.size m ∧ (∀ k, lookM k m = (findK k (putsL [] (l.take i))).map Pr.agg) ∧ m.length = (putsL [] (l.take i)).length) ?_
    ⟨0, [], [], rfl, rfl, by omega, x27, (T4.ext (x5.trans x6)).mod m7 (fun b hb e => by
      rcases hb with rfl | ⟨x, hx, _⟩
      · omega
      · cases hx), (fun b hb => by
      rcases hb with rfl | ⟨x, hx, _⟩
      · exact ⟨by omega, by omega, by omega⟩
      · cases hx), by simpa using hb7, hmap0, fun k => rfl, rfl⟩
  rintro K mm _ h8 ⟨i, ns, m, rfl, rfl, hi, x8, T8, hz, hb8, hm8, hlook, hmlen⟩ hK
  have hplen := putsL_len (l := l.take i) (t := [])
  simp only [List.length_nil, List.length_take] at hplen
  have hb2lt := blk_lt hb8
  have sz8 := x8.size
  have hinlt : ∀ b, inT h2.size ns b → b < h8.size := fun b hb => T8.lt hb
  refine PIf.intro (fun hq => ?_) (fun hq => ?_)
  · have hi' : i < l.length := by simp [v.len] at hq; omega
    have hgi := List.getElem?_eq_getElem hi'
    refine Join.mk fun K1 hK1 => ?_
    refine (v.ext (x02.trans x8)).idx hgi fun a1 _ c1 => ?_
    refine LoadS.mk c1.pair.1 (LoadS.mk c1.pair.2.1 (LoadB.mk c1.pair.2.2 ?_))
    refine New.pair fun b3 h13 eb hb13 x13 hs13 => ?_
    refine LoadS.mk (hget_lit hb13 rfl) (LoadS.mk (hget_lit1 hb13 rfl) (LoadB.mk (hget_lit1 hb13 rfl) ?_))
    refine mPut_ok (x := l[i]) (T8.ext x13) (by omega) fun ns14 h14 T14 m14 b14 => ⟨_, rfl, ?_⟩
    have hb14 := m14.blk (x13.blk hb8 (by simp)) (fun hc => (hz _ hc).2.2 rfl)
    have hb314 := m14.blk hb13 (fun hc => by have := hinlt _ hc; omega)
    have hm14 : MapIs h14 h4.size m := (hm8.mod x13 (fun h => h)).mod m14 (fun hc => (hz _ hc).2.1 rfl)
    have sz14 := m14.size
    have hz14 : ∀ b, inT h2.size ns14 b → h2.size ≤ b ∧ b ≠ h4.size ∧ b ≠ h5.size := fun b hb => by
      rcases b14 b hb with h5 | h5
      · exact hz b h5
      · exact ⟨by omega, by omega, by omega⟩
    have x14 : Ext h2 h14 := (x8.trans x13).then (m14.weak fun c _ hc => .inr (hz c hc).1)
    have hstep := putsL_take (t := []) hgi
    have hsorted := T8.sorted
    by_cases hw : wrongP l[i] = 0
    · have hput : putL l[i] (putsL [] (l.take i)) = ins l[i] (putsL [] (l.take i)) := putL_good hw
      refine PIf.yes (by rw [hw]; rfl) ?_
      refine loadM (hget_lit hb14 rfl) (LoadS.mk (hget_lit hb314 rfl) (LoadS.mk (hget_lit hb314 rfl) (LoadS.mk (hget_lit1 hb314 rfl) (LoadB.mk (hget_lit1 hb314 rfl) ?_))))
      refine update_ok (v := l[i].agg) P_msp P_str hm14 fun h15 hm15 m15 hs15 => ?_
      refine hK1 _ _ (hK (l.length - (i + 1)) _ _ (by omega) ⟨i + 1, ns14, _, by rw [wrap_succ (by omega)], rfl, by omega, x14.then (m15.weak fun c _ hc => .inr (by omega)), ?_, hz14, m15.blk hb14 (by omega), hm15, fun k => ?_, ?_⟩)
      · rw [hstep]; exact T14.mod m15 (fun b hb e => (hz14 b hb).2.1 e)
      · rw [hstep, hput, ins_find _ _ hsorted, lookM_upd, hlook]
        split <;> rfl
      · rw [hstep, hput, ins_len _ hsorted, updM_len, hlook, hmlen]
        congr 1
        simp
    · refine PIf.no (by simp [hw]) ?_
      have hput : putL l[i] (putsL [] (l.take i)) = putsL [] (l.take i) := by simp [putL, hw]
      refine hK1 _ _ (hK (l.length - (i + 1)) _ _ (by omega) ⟨i + 1, ns14, m, by rw [wrap_succ (by omega)], rfl, by omega, x14, by rw [hstep]; exact T14, hz14, hb14, hm14, fun k => ?_, ?_⟩)
      · rw [hstep, hput, hlook]
      · rw [hstep, hput, hmlen]
  · have hi' : i = l.length := by simp [v.len] at hq; omega
    rw [hi', List.take_length] at T8 hlook hmlen
    rw [hi', List.take_length, Nat.min_self] at hplen
    clear hK
    have hsorted := T8.sorted
    have hgood := T8.good
    generalize hM : putsL [] l = M at *
    refine mLen_ok T8 ⟨_, _, rfl, ?_⟩
    refine New.mk fun h17 _ hb17 x17 hs17 => ?_
    refine Store.mk hb17 (by simp) fun h18 hb18 m18 hs18 => ?_
    refine New.mk fun h19 _ hb19 x19 hs19 => ?_
    refine Store.mk hb19 (by simp) fun h20 hb20 m20 hs20 => ?_
    have x820 : Ext h8 h20 := ((x17.then (m18.weak fun c _ hc => .inr (by omega))).trans x19).then (m20.weak fun c _ hc => .inr (by omega))
    have T20 := T8.ext x820
    refine mFrom_ok T20 fun fv h21 it x21 hs21 => ⟨_, rfl, ?_⟩
    rw [drop_empty] at it
    have x821 : Ext h8 h21 := x820.trans x21
    have sz21 := x821.size
    have e4 : h21[h8.size]? = some (.cells #[.string (⟨#[]⟩ : ByteArray)] t_string (0, 0)) := x21.blk (m20.blk (x19.blk (by simpa using hb18) (by simp)) (by omega)) (by simp)
    have e5 : h21[h18.size]? = some (.cells #[.int .i64 0] t_int (0, 0)) := x21.blk (by simpa using hb20) (by simp)
    have e2 := x821.blk hb8 (by simp)
    have em := hm8.mod x821 (fun h => h)
    have y21 : Ext h1 h21 := (x2.trans x8).trans x821
    have e0 := y21.blk hb1 (by simp)
    refine range_iter it (fun _ _ => rfl)
      (fun i c O hh => c = none ∧ (∀ d, O d ↔ (d = h8.size ∨ d = h18.size)) ∧ Mod (fun d => d = h8.size ∨ d = h18.size) h21 hh ∧ ∃ last, hh[h8.size]? = some (.cells #[.string last] t_string (0, 0)) ∧ Range1 i M last ∧ hh[h18.size]? = some (.cells #[.int .i64 (i : Int)] t_int (0, 0)))
      (fun d => d = h8.size ∨ d = h18.size) ?_ ?_ ?_ ?_ ?_ ?_ ?_
    · rintro d hd hO
      rcases hd with hd | hd | hd
      · have := hinlt d hd; omega
      · omega
      · omega
    · rintro i c O hh ⟨_, hO, md, last, hk, _, hk5⟩ d hd
      rcases (hO d).1 hd with rfl | rfl
      · exact blk_lt hk
      · exact blk_lt hk5
    · rintro i c O hh h' ⟨e, hO, md, last, hk, hr, hk5⟩ mo
      refine ⟨e, hO, ⟨by have := md.size; have := mo.size; omega, fun b hb hn => ?_⟩, last, mo.blk hk (fun hn => hn.1 ((hO _).2 (.inl rfl))), hr, mo.blk hk5 (fun hn => hn.1 ((hO _).2 (.inr rfl)))⟩
      exact (mo.get b (by have := md.size; omega) (fun h => by omega)).trans (md.get b hb hn)
    · exact ⟨rfl, fun d => Iff.rfl, Mod.refl, _, e4, fun x hx => good_key (hgood x (List.mem_of_getElem? hx)), e5⟩
    · rintro i p O1 hh rec kn' kj' hi ⟨_, hO, md, last, hk, hr, hk5⟩ nO hsz1 hrec hst hkn hkj
      have hlast := hr p hi
      have hil := (List.getElem?_eq_some_iff.1 hi).1
      have szd := md.size
      refine New.pair fun b6 h27 eb hb27 x27 hs27 => ?_
      refine ⟨rec, x27.blk hrec (by simp), hst, ?_⟩
      generalize hg : h27.setIfInBounds (h21.size + 1) (.loop { rec with state := .busy }) = h28
      have m28 : Mod (fun b => b = h21.size + 1) h27 h28 := hg ▸ Mod.setObj rfl
      have hl28 : h28[h21.size + 1]? = some (.loop { rec with state := .busy }) := by rw [← hg]; exact setObj_self (by omega)
      have hb28 := m28.blk hb27 (by omega)
      have md28 : Mod (fun b => b = h21.size + 1) hh h28 := (Ext.mod x27).trans m28
      have hk28 := md28.blk hk (by omega)
      have hk528 := md28.blk hk5 (by omega)
      have mdA : Mod (fun d => d = h8.size ∨ d = h18.size) h21 h28 := ⟨by have := md28.size; omega, fun b hb hn => (md28.get b (by omega) (by omega)).trans (md.get b hb hn)⟩
      have e228 := mdA.blk e2 (by omega)
      have em28 := em.mod mdA (by omega)
      refine Join.mk fun K2 hK2 => ?_
      refine LoadS.mk (hget_lit hb28 rfl) (LoadS.mk (hget_lit1 hb28 rfl) (LoadB.mk (hget_lit1 hb28 rfl) (loadM (hget_lit e228 rfl) (LoadS.mk (hget_lit hb28 rfl) ?_))))
      refine lookup_ok P_msp P_str P_zp em28 ?_
      have hfp : findK p.key M = some p := hsorted.find (List.mem_of_getElem? hi)
      have hlk : (lookM p.key m).getD zeroP.agg = p.agg := by rw [hlook, hfp]; rfl
      refine ⟨p.key, p.val, p.gone, hlk, ?_⟩
      refine neqPair (x := p) (y := p) ⟨_, rfl, ?_⟩
      rw [decide_eq_true rfl]
      refine PIf.no rfl (LoadS.mk (hget_lit hb28 rfl) (LoadS.mk (hget_lit hk28 rfl) ?_))
      have hle : (sLt p.key last || sEq p.key last) = false := by
        rw [sEq_iff, sLt_asymm hlast, decide_eq_false (fun e => lt_ne hlast e.symm)]; rfl
      have hgo : K2 (false, ()) h28 := hK2 _ _ (PIf.no rfl (by
        refine LoadS.mk (hget_lit hb28 rfl) ?_
        refine Store.mk hk28 (by simp) fun h30 hb30 m30 hs30 => ?_
        have hk530 := m30.blk hk528 (by omega)
        refine LoadI.mk (hget_lit hk530 rfl) ?_
        refine Store.mk hk530 (by simp) fun h31 hb31 m31 hs31 => hkn _ ?_
        have hk31 := m31.blk hb30 (by omega)
        refine ⟨fun d => d = h8.size ∨ d = h18.size, fun d hd => .inl ((hO d).2 hd), ?_, m31.blk (m30.blk hl28 (by omega)) (by omega), rfl, fun _ => Iff.rfl, (mdA.trans (m30.weak fun c _ hc => .inl hc)).trans (m31.weak fun c _ hc => .inr hc), p.key, by simpa [arg1] using hk31, fun y hy => ?_, ?_⟩
        · refine ((md28.weak fun b _ hb => .inr hb).trans (m30.weak fun b _ hb => .inl ((hO b).2 (.inl hb)))).trans (m31.weak fun b _ hb => .inl ((hO b).2 (.inr hb)))
        · have hi1 := List.getElem?_eq_some_iff.1 hi
          have hy1 := List.getElem?_eq_some_iff.1 hy
          have := List.pairwise_iff_getElem.1 hsorted i (i + 1) hi1.1 hy1.1 (by omega)
          rw [hi1.2, hy1.2] at this
          exact this
        · rw [wrap_succ (by omega)] at hb31
          simpa using hb31))
      have hgoal : K2 ((sLt p.key last || sEq p.key last), ()) h28 := by rw [hle]; exact hgo
      exact hgoal
    · rintro O' h' ⟨_, hO, md, last, hk, _, hk5⟩ _ n1 hsub hdf
      have szm := md.size
      have hb2' := md.blk e2 (by omega)
      have em' := em.mod md (by omega)
      refine loadM (hget_lit hb2' rfl) ?_
      refine mapLen_ok P_msp em' ⟨_, rfl, ?_⟩
      refine PIf.yes (by rw [hmlen]; simp) ?_
      refine LoadI.mk (hget_lit hk5 rfl) ?_
      have hb0' := md.blk e0 (by omega)
      refine Store.mk hb0' (by simp) fun h37 hb37 m37 hs37 => ?_
      refine ⟨m37.blk hdf (by omega), ?_⟩
      have hb38 : (h37.setIfInBounds h21.size (.deferred none))[h.size]? = some (.cells #[.bool true] t_bool (0, 0)) := by
        rw [Array.getElem?_setIfInBounds_ne (by omega)]; simpa using hb37
      refine LoadB.mk (hget_lit hb38 rfl) (H _ ?_)
      have y' : Ext h h' := (x1.trans y21).then (md.weak fun c _ hc => .inr (by omega))
      exact (y'.then (m37.weak fun c _ hc => .inr (by omega))).then (Mod.setObj (.inr (by omega)))
    · rintro i j O' h' ⟨e, _⟩
      cases e
end Go.Lf.G
