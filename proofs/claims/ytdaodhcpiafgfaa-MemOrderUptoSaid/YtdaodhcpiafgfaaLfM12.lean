/-
  The skip list: asking; the statements MemRuns and MemStops over the formulas.
-/
import Derived.Test.YtdaodhcpiafgfaaLfM11
set_option maxRecDepth 100000
namespace Go.Lf.G
open Go

theorem mLen_ok {A : Amb} {h : Heap} {t : Nat} {ns : List SNode} {l : List Pr} {R : Value → Heap → Prop} (T : Tab h t ns l) (H : R (.tuple #[.int .i64 (l.length : Int), .int .i64 (sumSz l : Int)]) h) : HCalls A P f_mem_Table_Len #[.pointer (some ⟨t, 0, none⟩)] h R := by
  obtain ⟨nx, L, _⟩ := T.lay
  refine ok_mem_Table_Len ?_
  unfold F_mem_Table_Len
  refine PIf.no rfl ?_
  exact LoadI.mk (hget_lit1 L.head head_n.1) (LoadI.mk (hget_lit1 L.head head_n.2) H)

def zeroP : Pr := ⟨⟨#[]⟩, ⟨#[]⟩, false⟩
def getL (key : ByteArray) (l : List Pr) : Pr × Bool := match l[atK key l]? with | some q => if q.key = key then (q, true) else (zeroP, false) | none => (zeroP, false)

theorem three {h : Heap} {b : Nat} {T : TypeId} {c0 c1 c2 : Value} {k v : ByteArray} {g : Bool} {K : Heap → Prop} (hb : h[b]? = some (.cells #[c0, c1, c2] T (0, 0)))
    (H : ∀ h', h'[b]? = some (.cells #[.string k, .string v, .bool g] T (0, 0)) → Mod (fun c => c = b) h h' → K h') :
    Store h ⟨b, 0, none⟩ (.string k) fun h2 => Store h2 ((⟨b, 0, none⟩ : Addr).add 1) (.string v) fun h3 => Store h3 ((⟨b, 0, none⟩ : Addr).add 2) (.bool g) fun h4 => K h4 := by
  refine Store.mk hb (by simp) fun h2 hb2 m2 hs2 => ?_
  rw [add_mk, add_mk]
  refine Store.mk hb2 (by simp) fun h3 hb3 m3 hs3 => ?_
  refine Store.mk hb3 (by simp) fun h4 hb4 m4 hs4 => ?_
  exact H h4 (by simpa using hb4) ((m2.trans m3).trans m4)

/-- the node at a key's place -/
theorem tab_first {h h' : Heap} {t : Nat} {ns : List SNode} {nx : Nat → Nat → Option Addr} {n sz : Int} {key : ByteArray} {q : Nat → Nat} (L : Lay h t ns nx n sz) (K : Links ns nx) (hq : ∀ i, i < 12 → BeforeP ns key i (q i)) (x : Ext h h') :
    hget h' (((addrAt t ns (q 0)).add 3).add (0 * 1)) = some (.pointer ((ns[atK key (prs ns)]?).map fun y => ⟨y.blk, 0, none⟩)) := by
  have hq0 := Before.zero K.ht (hq 0 (by omega))
  have hak := atK_len key ns
  have h1 := (L.ext x).next (p := q 0) (i := 0) (by rw [hq0]; exact hak) (by omega)
  rw [h1, K.link (q 0) 0 (by rw [hq0]; exact hak) (by omega) (hq 0 (by omega)).ht, hq0, firstAt_zero K.ht]

theorem mGet_ok {A : Amb} {h : Heap} {t : Nat} {ns : List SNode} {l : List Pr} {key : ByteArray} {R : Value → Heap → Prop} (T : Tab h t ns l) (H : ∀ h', Ext h h' → R (.tuple #[(getL key l).1.agg, .bool (getL key l).2]) h') :
    HCalls A P f_mem_Table_Get #[.pointer (some ⟨t, 0, none⟩), .string key] h R := by
  obtain ⟨nx, L, Kl⟩ := T.lay
  refine ok_mem_Table_Get ?_
  unfold F_mem_Table_Get
  refine New.mk fun h1 _ hb hx1 hs1 => PIf.no rfl ?_
  have hss : Sorted (prs ns) := by rw [T.prs]; exact T.sorted
  refine before_ok (L.ext hx1) Kl hss fun q h5 hq x5 => ⟨_, _, _, _, _, _, _, _, _, _, _, _, rfl, ?_⟩
  refine atI ⟨by omega, LoadP.mk (tab_first (L.ext hx1) Kl hq x5) ?_⟩
  have hb5 := x5.blk hb (by simp)
  have x05 : Ext h h5 := hx1.trans x5
  have L5 := L.ext x05
  have hget : getL key l = match ns[atK key (prs ns)]? with | some y => if y.pr.key = key then (y.pr, true) else (zeroP, false) | none => (zeroP, false) := by
    unfold getL
    rw [← T.prs]
    rw [show prs ns = ns.map (·.pr) from rfl, List.getElem?_map]
    cases ns[atK key (ns.map (·.pr))]? <;> rfl
  have hfin : ∀ (g : Pr) (b : Bool) h9, h9[h.size]? = some (.cells #[.string g.key, .string g.val, .bool g.gone] t_api_Pair (0, 0)) → Mod (fun c => c = h.size) h5 h9 → getL key l = (g, b) →
      (LoadS h9 (⟨h.size, 0, none⟩ : Addr) fun r0 => LoadS h9 ((⟨h.size, 0, none⟩ : Addr).add 1) fun r1 => LoadB h9 ((⟨h.size, 0, none⟩ : Addr).add 2) fun r2 => R (.tuple #[.agg #[.string r0, .string r1, .bool r2], .bool b]) h9) := fun g b h9 hb9 m9 e => by
    refine LoadS.mk (hget_lit hb9 rfl) (LoadS.mk (hget_lit1 hb9 rfl) (LoadB.mk (hget_lit1 hb9 rfl) ?_))
    have := H h9 (x05.then (m9.weak fun c _ hc => .inr (by omega)))
    rw [e] at this
    exact this
  refine Join.mk fun K hK => ?_
  have hno : getL key l = (zeroP, false) → K (false, ()) h5 := fun e => hK _ _ (PIf.no rfl (three hb5 fun h9 hb9 m9 => hfin zeroP false h9 hb9 m9 e))
  cases hy : ns[atK key (prs ns)]? with
  | none =>
    rw [hy] at hget
    exact PIf.no rfl (hno hget)
  | some y =>
    rw [hy] at hget
    refine PIf.yes rfl (atI ?_)
    have hrow := L5.pair hy
    refine LoadS.mk hrow.1 ?_
    rw [sEq_iff]
    by_cases hk : y.pr.key = key
    · rw [decide_eq_true hk]
      refine hK _ _ (PIf.yes rfl ?_)
      rw [hy]
      refine atI (LoadS.mk hrow.1 (LoadS.mk hrow.2.1 (LoadB.mk hrow.2.2 ?_)))
      simp only [hk, if_true] at hget
      exact three hb5 fun h9 hb9 m9 => hfin y.pr true h9 hb9 m9 hget
    · rw [decide_eq_false hk]
      simp only [hk, if_false] at hget
      exact hno hget

theorem rLen_ok {A : Amb} {h : Heap} {b : Nat} {T : TypeId} {fr : Nat × Nat} {s : Sl} {l : List Pr} {R : Value → Heap → Prop} (hb : h[b]? = some (.cells #[.slice s.p s.len s.cap] T fr)) (v : View PairE h s l) (hl : l.length ≤ 1099511627776) (g : GoodL l)
    (H : R (.tuple #[.int .i64 (l.length : Int), .int .i64 (sumSz l : Int)]) h) : HCalls A P f_wherryref05_Table_Len #[.pointer (some ⟨b, 0, none⟩)] h R := by
  refine ok_wherryref05_Table_Len ?_
  unfold F_wherryref05_Table_Len
  refine Loop.rule (fun m x h1 => ∃ i : Nat, x = ((sumSz (l.take i) : Int), (i : Int), ()) ∧ h1 = h ∧ m = l.length - i ∧ i ≤ l.length) ?_ ⟨0, rfl, rfl, rfl, by omega⟩
  rintro K m _ h1 ⟨i, rfl, hh, rfl, hi⟩ hK
  subst hh
  refine LoadL.mk (hget_lit hb rfl) ?_
  refine PIf.intro (fun hq => ?_) (fun hq => ?_)
  · have hi' : i < l.length := by simp [v.len] at hq; omega
    have hgi := List.getElem?_eq_getElem hi'
    refine LoadL.mk (hget_lit hb rfl) ?_
    refine v.idx hgi fun a1 _ c1 => ?_
    refine LoadS.mk c1.pair.1 (LoadL.mk (hget_lit hb rfl) ?_)
    refine v.idx hgi fun a1 _ c1 => ?_
    refine LoadS.mk c1.pair.2.1 ?_
    have h1 := good_size (g l[i] (List.getElem_mem hi'))
    have h2 := sumSz_good (l := l.take i) fun y hy => g y (List.mem_of_mem_take hy)
    have h3 : (l.take i).length ≤ i := by simp; omega
    have e : sumSz (l.take (i + 1)) = sumSz (l.take i) + (l[i].key.size + l[i].val.size) := by
      rw [List.take_add_one, hgi, Option.toList_some, sumSz_append, sumSz_cons]; simp [sumSz]
    have hw : IntKind.wrap .i64 ((sumSz (l.take i) : Int) + IntKind.wrap .i64 ((l[i].key.size : Int) + (l[i].val.size : Int))) = (sumSz (l.take (i + 1)) : Int) := by
      rw [show ((l[i].key.size : Int) + (l[i].val.size : Int)) = ((l[i].key.size + l[i].val.size : Nat) : Int) by omega, wrap_nat (by omega), show (sumSz (l.take i) : Int) + ((l[i].key.size + l[i].val.size : Nat) : Int) = ((sumSz (l.take (i + 1)) : Nat) : Int) by omega]
      exact wrap_nat (by omega)
    refine hK (l.length - (i + 1)) _ _ (by omega) ⟨i + 1, ?_, rfl, rfl, by omega⟩
    show (IntKind.wrap .i64 ((sumSz (l.take i) : Int) + IntKind.wrap .i64 ((l[i].key.size : Int) + (l[i].val.size : Int))), IntKind.wrap .i64 ((i : Int) + (1 : Int)), ()) = _
    rw [hw, wrap_succ (by omega)]
  · have hi' : i = l.length := by simp [v.len] at hq; omega
    rw [hi', List.take_length]
    refine LoadL.mk (hget_lit hb rfl) ?_
    rw [v.len]; exact H

theorem rGet_ok {A : Amb} {h : Heap} {b : Nat} {T : TypeId} {fr : Nat × Nat} {s : Sl} {l : List Pr} {key : ByteArray} {R : Value → Heap → Prop} (hb : h[b]? = some (.cells #[.slice s.p s.len s.cap] T fr)) (v : View PairE h s l) (hl : l.length ≤ 1099511627776)
    (H : ∀ h', Ext h h' → R (.tuple #[(getL key l).1.agg, .bool (getL key l).2]) h') : HCalls A P f_wherryref05_Table_Get #[.pointer (some ⟨b, 0, none⟩), .string key] h R := by
  refine ok_wherryref05_Table_Get ?_
  unfold F_wherryref05_Table_Get
  refine New.mk fun h1 _ hb1 hx1 hs1 => ?_
  have hbb := hx1.blk hb (by simp)
  have v1 := v.ext hx1
  refine at_ok hbb v1 hl ⟨_, _, rfl, ?_⟩
  have hfin : ∀ (g : Pr) (b : Bool) h9, h9[h.size]? = some (.cells #[.string g.key, .string g.val, .bool g.gone] t_api_Pair (0, 0)) → Mod (fun c => c = h.size) h1 h9 → getL key l = (g, b) →
      (LoadS h9 (⟨h.size, 0, none⟩ : Addr) fun r0 => LoadS h9 ((⟨h.size, 0, none⟩ : Addr).add 1) fun r1 => LoadB h9 ((⟨h.size, 0, none⟩ : Addr).add 2) fun r2 => R (.tuple #[.agg #[.string r0, .string r1, .bool r2], .bool b]) h9) := fun g b h9 hb9 m9 e => by
    refine LoadS.mk (hget_lit hb9 rfl) (LoadS.mk (hget_lit1 hb9 rfl) (LoadB.mk (hget_lit1 hb9 rfl) ?_))
    have := H h9 (hx1.then (m9.weak fun c _ hc => .inr (by omega)))
    rw [e] at this
    exact this
  cases hy : l[atK key l]? with
  | none =>
    have h1 : thereK key l = false := by unfold thereK; rw [hy]
    rw [h1]
    exact PIf.yes rfl (three hb1 fun h9 hb9 m9 => hfin zeroP false h9 hb9 m9 (by unfold getL; rw [hy]))
  | some y =>
    have h1 : thereK key l = decide (y.key = key) := by unfold thereK; rw [hy]
    rw [h1]
    by_cases hk : y.key = key
    · rw [decide_eq_true hk]
      refine PIf.no rfl (LoadL.mk (hget_lit hbb rfl) ?_)
      refine v1.idx hy fun a1 _ c1 => ?_
      refine LoadS.mk c1.pair.1 (LoadS.mk c1.pair.2.1 (LoadB.mk c1.pair.2.2 ?_))
      exact three hb1 fun h9 hb9 m9 => hfin y true h9 hb9 m9 (by unfold getL; rw [hy]; simp [hk])
    · rw [decide_eq_false hk]
      exact PIf.yes rfl (three hb1 fun h9 hb9 m9 => hfin zeroP false h9 hb9 m9 (by unfold getL; rw [hy]; simp [hk]))

theorem rFrom_ok {A : Amb} {h : Heap} {b : Nat} {T : TypeId} {fr : Nat × Nat} {s : Sl} {l : List Pr} {key : ByteArray} {R : Value → Heap → Prop} (hb : h[b]? = some (.cells #[.slice s.p s.len s.cap] T fr)) (v : View PairE h s l) (hl : l.length ≤ 1099511627776)
    (H : ∀ s', View PairE h s' (l.drop (atK key l)) → R (.slice s'.p s'.len s'.cap) h) : HCalls A P f_wherryref05_Table_From #[.pointer (some ⟨b, 0, none⟩), .string key] h R := by
  refine ok_wherryref05_Table_From ?_
  unfold F_wherryref05_Table_From
  refine at_ok hb v hl ⟨_, _, rfl, ?_⟩
  refine LoadL.mk (hget_lit hb rfl) ?_
  have hle := atK_le key l
  have hlen := v.len
  refine ⟨⟨by omega, by omega⟩, ?_⟩
  have vs := v.sub (lo := atK key l) (hi := l.length) hle (Nat.le_refl _)
  rw [List.take_length, ← hlen] at vs
  exact H ⟨slOff s.p s.cap (atK key l) 3, s.len - atK key l, s.cap - atK key l⟩ vs

theorem cat2 {y c d : Value} : (#[] ++ #[y] ++ #[c, d] : Array Value) = #[y, c, d] := rfl

theorem From1_ok {A : Amb} {h0 : Heap} {b c t : Nat} {T T' : TypeId} {fr fr' : Nat × Nat} {ns : List SNode} {l : List Pr} {key : ByteArray} (hb : h0[b]? = some (.cells #[.pointer (some ⟨t, 0, none⟩)] T fr)) (hc : h0[c]? = some (.cells #[.string key] T' fr')) (Tb : Tab h0 t ns l) :
    IterV A P (.func (.func f_mem_Table_From_1) #[] #[.pointer (some ⟨b, 0, none⟩), .pointer (some ⟨c, 0, none⟩)]) (fun d => inT t ns d ∨ d = b ∨ d = c) h0 (l.drop (atK key l)) := by
  refine ⟨?_, _, _, rfl, fun yv => by kernel_rfl, fun h hS yv J O hy hd hB hY hJ => ?_⟩
  · rintro d (hd | rfl | rfl)
    · exact Tb.lt hd
    · exact blk_lt hb
    · exact blk_lt hc
  rw [cat2]
  refine ok_mem_Table_From_1 ?_
  unfold F_mem_Table_From_1
  have hbh := (hS b (.inr (.inl rfl))).trans hb
  have hch := (hS c (.inr (.inr rfl))).trans hc
  obtain ⟨nx, L0, Kl⟩ := Tb.lay
  have L : Lay h t ns nx (l.length : Int) (sumSz l : Int) :=
    ⟨(hS t (.inl (.inl rfl))).trans L0.head, fun j x hx => ⟨(hS x.blk (.inl (.inr ⟨x, List.mem_of_getElem? hx, rfl⟩))).trans (L0.node j x hx).1, (L0.node j x hx).2⟩, L0.apart⟩
  have hdO : ∀ d, inT t ns d → ¬ O d := fun d hd' => hd d (.inl hd')
  refine LoadP.mk (hget_lit hbh rfl) (PIf.no rfl (LoadP.mk (hget_lit hbh rfl) (LoadS.mk (hget_lit hch rfl) ?_)))
  have hss : Sorted (prs ns) := by rw [Tb.prs]; exact Tb.sorted
  refine before_ok L Kl hss fun q h1 hq x1 => ⟨_, _, _, _, _, _, _, _, _, _, _, _, rfl, ?_⟩
  refine atI ⟨by omega, LoadP.mk (tab_first L Kl hq x1) ?_⟩
  have hal : atK key (prs ns) = atK key l := by rw [Tb.prs]
  have hle := atK_le key l
  have hnl : ns.length = l.length := by rw [← Tb.prs]; simp
  rw [hal]
  have hJ1 := hB.stable _ _ _ _ _ hJ (x1.weak (S' := fun b => ¬ O b ∧ h.size ≤ b) fun _ _ h => h.elim)
  refine Loop.rule (fun m x hh => ∃ (j : Nat) (O1 : Nat → Prop), x = ((ns[atK key l + j]?).map fun y => (⟨y.blk, 0, none⟩ : Addr), ()) ∧ m = l.length - (atK key l + j) ∧ atK key l + j ≤ l.length ∧ Mod O h hh ∧ (∀ b, O1 b → O b ∨ h.size ≤ b) ∧ J j true O1 hh) ?_
    ⟨0, O, rfl, rfl, by omega, x1.mod, fun b hb => .inl hb, hJ1⟩
  rintro K m _ hh ⟨j, O1, rfl, rfl, hj, md, hsub, hjj⟩ hK
  have hdl : (l.drop (atK key l)).length = l.length - atK key l := by simp
  cases hy : ns[atK key l + j]? with
  | none =>
    have := List.getElem?_eq_none_iff.1 hy
    refine PIf.no rfl ?_
    exact ⟨rfl, j, true, O1, md, hsub, hjj, fun _ => by rw [hdl]; omega, by rw [hdl]; omega⟩
  | some y =>
    have hlt := (List.getElem?_eq_some_iff.1 hy).1
    have hrow := (L.mod md hdO).pair hy
    refine PIf.yes rfl (atI (LoadS.mk hrow.1 (LoadS.mk hrow.2.1 (LoadB.mk hrow.2.2 ?_))))
    have hget : (l.drop (atK key l))[j]? = some y.pr := by
      rw [List.getElem?_drop]
      have h5 : (prs ns)[atK key l + j]? = some y.pr := by rw [show prs ns = ns.map (·.pr) from rfl, List.getElem?_map, hy]; rfl
      rw [Tb.prs] at h5
      exact h5
    refine CallV.mono (hY j y.pr O1 hh hget hjj) ?_
    rintro _ h3 ⟨g, O2, rfl, hsub2, m3, hj3⟩
    have szm := md.size
    have hsub3 : ∀ b, O2 b → O b ∨ h.size ≤ b := fun b hb => (hsub2 b hb).elim (hsub b) fun h1 => .inr (by omega)
    have md3 : Mod O h h3 := md.then (m3.weak fun b _ hb => hsub b hb)
    refine ⟨g, rfl, PIf.intro (fun hq => ?_) (fun hq => ?_)⟩
    · have hg : g = false := by simpa using hq
      subst hg
      exact ⟨rfl, j + 1, false, O2, md3, hsub3, hj3, (fun h => by cases h), by rw [hdl]; omega⟩
    · have hg : g = true := by simpa using hq
      subst hg
      refine atI ⟨by omega, ?_⟩
      have hnx := (L.mod md3 hdO).next (p := atK key l + j + 1) (i := 0) (by omega) (by omega)
      have ea : addrAt t ns (atK key l + j + 1) = ⟨y.blk, 0, none⟩ := by simp [addrAt, hy]
      rw [ea, Kl.link _ 0 (by omega) (by omega) (by have := (Kl.ht y (List.mem_of_getElem? hy)).1; simp [htAt, hy]; omega), firstAt_zero Kl.ht] at hnx
      refine LoadP.mk hnx ?_
      exact hK (l.length - (atK key l + (j + 1))) _ _ (by omega) ⟨j + 1, O2, rfl, rfl, by omega, md3, hsub3, hj3⟩

theorem mFrom_ok {A : Amb} {h : Heap} {t : Nat} {ns : List SNode} {l : List Pr} {key : ByteArray} {R : Value → Heap → Prop} (T : Tab h t ns l)
    (H : ∀ fv h', IterV A P fv (fun d => inT t ns d ∨ d = h.size ∨ d = h.size + 1) h' (l.drop (atK key l)) → Ext h h' → h'.size = h.size + 2 → R fv h') : HCalls A P f_mem_Table_From #[.pointer (some ⟨t, 0, none⟩), .string key] h R := by
  refine ok_mem_Table_From ?_
  unfold F_mem_Table_From
  refine New.mk fun h1 _ hb1 x1 hs1 => New.mk fun h2 _ hb2 x2 hs2 => ?_
  have x02 : Ext h h2 := x1.trans x2
  have hh := From1_ok (A := A) (x2.blk hb1 (by simp)) hb2 (T.ext x02) (key := key)
  refine H _ h2 (hh.weak ?_ ?_ (fun c _ => rfl)) x02 (by omega)
  · rintro d (hd | rfl | rfl)
    · exact .inl hd
    · exact .inr (.inl rfl)
    · exact .inr (.inr hs1)
  · rintro d (hd | rfl | rfl)
    · exact (T.ext x02).lt hd
    · omega
    · omega

theorem atK_empty (l : List Pr) : atK ⟨#[]⟩ l = 0 := by
  have : ∀ x : ByteArray, sLt x ⟨#[]⟩ = false := fun x => by
    have e : (⟨#[]⟩ : ByteArray).toList = [] := by simp [ByteArray.toList_eq]
    unfold sLt
    rw [e]
    cases x.toList <;> rfl
  cases l with
  | nil => rfl
  | cons x l => simp [atK, lowK, this]

theorem drop_empty (l : List Pr) : l.drop (atK ⟨#[]⟩ l) = l := by rw [atK_empty]; rfl

def qb : Pr := ⟨⟨#[98]⟩, ⟨#[49]⟩, false⟩
def qa : Pr := ⟨⟨#[97]⟩, ⟨#[50]⟩, false⟩

theorem awake05_ok {A : Amb} {h : Heap} {R : Value → Heap → Prop} (H : ∀ h', Ext h h' → R (.bool true) h') : HCalls A P f_wherrylaw05_awake #[] h R := by
  have g1 : wrongP qb = 0 := by decide
  have g2 : wrongP qa = 0 := by decide
  have g3 : wrongP zeroP = 1 := by decide
  have e1 : sLt qb.key qa.key = false := by rw [show qb.key = ⟨⟨[98]⟩⟩ from rfl, show qa.key = ⟨⟨[97]⟩⟩ from rfl, sLt_lit]; rfl
  have hl : putL qa (putL qb []) = [qa, qb] := by
    rw [putL_good g1, putL_good g2]
    have : ¬ (qb.key = qa.key) := by rw [show qb.key = ⟨⟨[98]⟩⟩ from rfl, show qa.key = ⟨⟨[97]⟩⟩ from rfl, key_lit]; decide
    simp [ins, e1, this]
  refine ok_wherrylaw05_awake ?_
  unfold F_wherrylaw05_awake
  refine New_ok fun h1 T1 x1 hs1 => ⟨_, rfl, ?_⟩
  refine mPut_ok (x := qb) T1 (by simp) fun ns2 h2 T2 m2 b2 => ⟨_, rfl, ?_⟩
  refine mPut_ok (x := qa) T2 (by have := putL_len qb []; simp at this; omega) fun ns3 h3 T3 m3 b3 => ⟨_, rfl, ?_⟩
  rw [hl] at T3
  have z1 : ∀ b, inT h.size [] b → h.size ≤ b := fun b hb => by
    rcases hb with rfl | ⟨x, hx, _⟩
    · omega
    · cases hx
  have z2 : ∀ b, inT h.size ns2 b → h.size ≤ b := fun b hb => (b2 b hb).elim (z1 b) fun h1 => by omega
  have sz2 := m2.size
  have z3 : ∀ b, inT h.size ns3 b → h.size ≤ b := fun b hb => (b3 b hb).elim (z2 b) fun h1 => by omega
  have x3 : Ext h h3 := (x1.then (m2.weak fun c _ hc => .inr (z1 c hc))).then (m3.weak fun c _ hc => .inr (z2 c hc))
  have sz3 := x3.size
  refine mFrom_ok T3 fun fv h4 it4 x4 _ => ⟨_, rfl, ?_⟩
  refine ⟨it4.one.2.1, PIf.no it4.one.2.2 ?_⟩
  rw [drop_empty] at it4
  refine Collect_ok it4 (fun _ _ => rfl) (by simp) fun s h5 o5 _ x5 => ⟨s, rfl, ?_⟩
  have hlen := o5.len
  rw [g1, g2]
  refine PIf.yes rfl (PIf.yes rfl (PIf.yes (by simp [hlen]) ?_))
  refine o5.view.idx (i := 0) (x := qa) rfl fun a _ c => ?_
  refine LoadS.mk c.pair.1 (PIf.yes (by rw [sEq_iff]; rfl) ?_)
  refine mPut_ok (x := zeroP) ((T3.ext x4).ext x5) (by simp) fun ns6 h6 T6 m6 b6 => ⟨_, rfl, ?_⟩
  rw [g3]
  exact H h6 (((x3.trans x4).trans x5).then (m6.weak fun c _ hc => .inr (z3 c hc)))

/-- pairs are put, one behind the other -/
theorem putsL_snoc {t l : List Pr} {x : Pr} : putsL t (l ++ [x]) = putL x (putsL t l) := by simp [putsL, List.foldl_append]

theorem range_iter_j {A : Amb} {P : Program} {fv : Value} {S : Nat → Prop} {h0 h : Heap} {l : List Pr} (it : IterV A P fv S h0 l) (hS : ∀ b, S b → h[b]? = h0[b]?)
    (Inv : Nat → Option (Option Nat) → (Nat → Prop) → Heap → Prop) (O : Nat → Prop) (Fin : Heap → Prop) (hd : ∀ b, S b → ¬ O b)
    {j0 : Option Nat} {body : TyA [.agg [.str, .str, .bool]] → Nat → Heap → (Heap → Prop) → (Option Nat → Heap → Prop) → Prop} {kn : Heap → Prop} {kj : Option Nat → Heap → Prop}
    (wf : ∀ i c O hh, Inv i c O hh → ∀ b, O b → b < hh.size)
    (stable : ∀ i c O hh h', Inv i c O hh → Mod (fun b => ¬ O b ∧ h.size ≤ b) hh h' → Inv i c O h')
    (init : Inv 0 none O h)
    (round : ∀ i x O1 hh rec kn' kj', l[i]? = some x → Inv i none O1 hh → ¬ O1 (h.size + 1) → h.size + 1 < hh.size → hh[h.size + 1]? = some (.loop rec) → rec.state = .ready →
      (∀ h', RoundEnd (h.size + 1) rec hh O1 (Inv (i + 1) none) h' → kn' h') → (∀ j h', RoundEnd (h.size + 1) rec hh O1 (Inv (i + 1) (some j)) h' → kj' j h') → body (arg1 x) (h.size + 1) hh kn' kj')
    (e1 : ∀ O' h', Inv l.length none O' h' → Mod O h h' → ¬ O' h.size → (∀ b, O' b → O b ∨ h.size ≤ b) → h'[h.size]? = some (.deferred (some [])) → Fin h')
    (e2 : ∀ i j O' h', Inv i (some j) O' h' → i ≤ l.length → Mod O h h' → ¬ O' h.size → (∀ b, O' b → O b ∨ h.size ≤ b) → h'[h.size]? = some (.deferred (some [])) → j = j0 ∧ Fin h')
    (fin : ∀ h', Fin h' → kn h') (same : ∀ h', kn h' → kj j0 h') :
    RangeK A P fv [.agg [.str, .str, .bool]] body h kn kj :=
  range_iter it hS Inv O hd wf stable init round (fun O' h' a b c d e => fin h' (e1 O' h' a b c d e)) fun i j O' h' a b c d e f => by
    obtain ⟨rfl, hf⟩ := e2 i j O' h' a b c d e f
    exact same h' (fin h' hf)

theorem MemStops_ok {A : Amb} {h : Heap} {s : Sl} {l : List Pr} {key : ByteArray} {most : Int} {R : Value → Heap → Prop} (v : View PairE h s l) (hl : l.length < 1099511627776) (H : ∀ h', Ext h h' → R (.bool true) h') :
    HCalls A P f_wherrylaw05_MemStops #[.slice s.p s.len s.cap, .string key, .int .i64 most] h R := by
  refine ok_wherrylaw05_MemStops ?_
  unfold F_wherrylaw05_MemStops
  refine New.mk fun h1 _ hb1 x1 hs1 => ?_
  refine awake05_ok fun h2 x2 => ⟨_, rfl, PIf.no rfl ?_⟩
  refine New_ok fun h3 T3 x3 hs3 => ⟨_, rfl, ?_⟩
  have sz12 := x2.size
  have x03 : Ext h h3 := (x1.trans x2).trans x3
  have hbm3 : h3[h.size]? = some (.cells #[.int .i64 most] t_int (0, 0)) := x3.blk (x2.blk hb1 (by simp)) (by simp)
  refine Loop.rule (fun m x h4 => ∃ (i : Nat) (ns : List SNode), x = ((i : Int), ()) ∧ m = l.length - i ∧ i ≤ l.length ∧ Ext h2 h4 ∧ Tab h4 h2.size ns (putsL [] (l.take i)) ∧ (∀ b, inT h2.size ns b → h2.size ≤ b)) ?_
    ⟨0, [], rfl, rfl, by omega, x3, T3, fun b hb => by
      rcases hb with rfl | ⟨x, hx, _⟩
      · omega
      · cases hx⟩
  rintro K m _ h4 ⟨i, ns, rfl, rfl, hi, x4, T4, hz⟩ hK
  have hplen := putsL_len (l := l.take i) (t := [])
  simp only [List.length_nil, List.length_take] at hplen
  refine PIf.intro (fun hq => ?_) (fun hq => ?_)
  · have hi' : i < l.length := by simp [v.len] at hq; omega
    have hgi := List.getElem?_eq_getElem hi'
    have v4 : View PairE h4 s l := v.ext ((x1.trans x2).trans x4)
    refine v4.idx hgi fun a1 _ c1 => ?_
    refine LoadS.mk c1.pair.1 (LoadS.mk c1.pair.2.1 (LoadB.mk c1.pair.2.2 ?_))
    refine New.pair fun b1 h8 eb hb8 x8 hs8 => ?_
    refine LoadS.mk (hget_lit hb8 rfl) (LoadS.mk (hget_lit1 hb8 rfl) (LoadB.mk (hget_lit1 hb8 rfl) ?_))
    refine mPut_ok (x := l[i]) (T4.ext x8) (by omega) fun ns9 h9 T9 m9 b9 => ⟨_, rfl, ?_⟩
    have sz4 := x4.size
    refine hK (l.length - (i + 1)) _ _ (by omega) ⟨i + 1, ns9, by rw [wrap_succ (by omega)], rfl, by omega, (x4.trans x8).then (m9.weak fun c _ hc => .inr (hz c hc)), by rw [putsL_take hgi]; exact T9, fun b hb => (b9 b hb).elim (hz b) fun h1 => by omega⟩
  · have hi' : i = l.length := by simp [v.len] at hq; omega
    rw [hi', List.take_length] at T4
    rw [hi', List.take_length, Nat.min_self] at hplen
    clear hK
    generalize hM : putsL [] l = M at *
    have hbm4 : h4[h.size]? = some (.cells #[.int .i64 most] t_int (0, 0)) := x4.blk (x2.blk hb1 (by simp)) (by simp)
    refine New.mk fun h10 _ hb10 x10 hs10 => ?_
    have sz4 := x4.size
    have T10 := T4.ext x10
    refine mFrom_ok T10 fun fv h11 it x11 hs11 => ⟨_, rfl, ?_⟩
    have hLl : (M.drop (atK key M)).length ≤ 1099511627776 := by simp; omega
    generalize hL : M.drop (atK key M) = L at *
    have hbm : h11[h.size]? = some (.cells #[.int .i64 most] t_int (0, 0)) := x11.blk (x10.blk hbm4 (by simp)) (by simp)
    have hb11 := x11.blk hb10 (by simp)
    have hinlt : ∀ b, inT h2.size ns b → b < h4.size := fun b hb => T4.lt hb
    refine range_iter_j (j0 := some 2) it (fun b hb => rfl)
      (fun i c O hh => hh[h.size]? = some (.cells #[.int .i64 most] t_int (0, 0)) ∧ ∃ (s : Sl) (acc : List Pr), hh[h4.size]? = some (.cells #[.slice s.p s.len s.cap] t_sl_api_Pair (0, 0)) ∧ Own PairE t_api_Pair hh s acc ∧ (∀ b, O b ↔ (b = h4.size ∨ s.blk = some b)) ∧ (∀ b, s.blk = some b → b < hh.size ∧ h4.size < b) ∧ match c with
        | none => acc = L.take i ∧ i ≤ most.toNat
        | some j => j = some 2 ∧ acc = L.take most.toNat)
      (fun b => b = h4.size)
      (fun h' => Mod (fun b => b = h4.size) h11 h' ∧ h'[h11.size]? = some (.deferred (some [])) ∧ h'[h.size]? = some (.cells #[.int .i64 most] t_int (0, 0)) ∧ ∃ s : Sl, h'[h4.size]? = some (.cells #[.slice s.p s.len s.cap] t_sl_api_Pair (0, 0)) ∧ Own PairE t_api_Pair h' s (L.take most.toNat))
      ?_ ?_ ?_ ?_ ?_ ?_ ?_ ?_ (fun h' h => h)
    · rintro b (hb | rfl | rfl) e
      · have := hinlt b hb; omega
      · omega
      · omega
    · rintro i c O hh ⟨_, s, acc, h2, o, hO, hlt, _⟩ b hb
      rcases (hO b).1 hb with rfl | h3
      · exact blk_lt h2
      · exact (hlt b h3).1
    · rintro i c O hh h' ⟨e1, s, acc, hk2, o, hO, hlt, hm⟩ m
      refine ⟨m.blk e1 (fun h => by omega), s, acc, m.blk hk2 (fun hn => hn.1 ((hO _).2 (.inl rfl))), o.mod m (fun c hc hn => hn.1 ((hO _).2 (.inr hc))), hO, fun b hb => ⟨?_, (hlt b hb).2⟩, hm⟩
      have := m.size; have := (hlt b hb).1; omega
    · exact ⟨hbm, ⟨none, 0, 0⟩, [], hb11, Own.nil, fun b => by simp [Sl.blk], fun b hb => by simp [Sl.blk] at hb, by simp, by omega⟩
    · rintro i x O1 hh rec kn' kj' hi ⟨e1, s, acc, hk2, o, hO, hlt, rfl, him⟩ nO hsz1 hrec hst hkn hkj
      have hil := (List.getElem?_eq_some_iff.1 hi).1
      refine New.pair fun b1 h9 eb hb9 x9 hs9 => ?_
      refine ⟨rec, x9.blk hrec (by simp), hst, ?_⟩
      generalize hg : h9.setIfInBounds (h11.size + 1) (.loop { rec with state := .busy }) = h8
      have m8 : Mod (fun b => b = h11.size + 1) h9 h8 := hg ▸ Mod.setObj rfl
      have hl8 : h8[h11.size + 1]? = some (.loop { rec with state := .busy }) := by rw [← hg]; exact setObj_self (by omega)
      have hb8 := m8.blk hb9 (by omega)
      have e18 := m8.blk (x9.blk e1 (by simp)) (by omega)
      have m08 : Mod (fun b => b = h11.size + 1) hh h8 := (Ext.mod x9).trans m8
      have hk28 := m8.blk (x9.blk hk2 (by simp)) (by omega)
      have hlt1 := blk_lt hk2
      have o8 := (o.ext x9).mod m8 (fun c hc e => nO ((hO _).2 (.inr (e ▸ hc))))
      have hs8 := m8.size
      have hlen : (L.take i).length = i := by simp; omega
      have hsl : s.len = i := by rw [o.len, hlen]
      refine LoadL.mk (hget_lit hk28 rfl) (LoadI.mk (hget_lit e18 rfl) ?_)
      refine PIf.intro (fun hq => hkj _ _ ?_) (fun hq => ?_)
      · have hq : most ≤ (i : Int) := by simpa [hsl] using hq
        refine ⟨O1, fun b hb => .inl hb, m08.weak fun b _ hb => .inr hb, hl8, e18, s, L.take i, hk28, o8, hO, fun b hb => ⟨?_, (hlt b hb).2⟩, rfl, ?_⟩
        · have := (hlt b hb).1; omega
        · have : i = most.toNat := by omega
          rw [this]
      · have hq : (i : Int) < most := by simpa [hsl] using hq
        refine LoadL.mk (hget_lit hk28 rfl) (LoadS.mk (hget_lit hb8 rfl) (LoadS.mk (hget_lit1 hb8 rfl) (LoadB.mk (hget_lit1 hb8 rfl) ?_)))
        refine New.append1 (E := PairE) (x := x) rfl app_pair o8 (by rw [hlen]; omega) (by rw [hlen]; simp [maxLen]; omega) fun s4 h9 o9 m9 bl9 _ => ?_
        have hbl : s.blk ≠ some h4.size := fun e => by have := hlt _ e; omega
        refine Store.mk (m9.blk hk28 hbl) (by simp) fun h10 hb10 m10 hs10 => hkn _ ?_
        have hsz9 := m9.size
        have o10 := o9.mod m10 (fun c hc e => by
          rcases bl9 c hc with h3 | h3
          · have := hlt _ h3; omega
          · omega)
        have hacc : L.take i ++ [x] = L.take (i + 1) := by rw [List.take_add_one, hi]; rfl
        rw [hacc] at o10
        refine ⟨fun b => b = h4.size ∨ s4.blk = some b, ?_, ?_, m10.blk (m9.blk hl8 (fun e => nO ((hO _).2 (.inr e)))) (by omega), m10.blk (m9.blk e18 (fun e => by have := hlt _ e; omega)) (by omega), s4, _, by simpa using hb10, o10, fun _ => Iff.rfl, ?_, rfl, by omega⟩
        · rintro b (rfl | hb)
          · exact .inl ((hO _).2 (.inl rfl))
          · rcases bl9 b hb with h3 | h3
            · exact .inl ((hO _).2 (.inr h3))
            · exact .inr (by omega)
        · exact ((m08.weak fun b _ hb => .inr hb).trans (m9.weak fun b _ hb => .inl ((hO _).2 (.inr hb)))).trans (m10.weak fun b _ hb => .inl ((hO _).2 (.inl hb)))
        · intro b hb
          refine ⟨o10.lt hb, ?_⟩
          rcases bl9 b hb with h3 | h3
          · exact (hlt _ h3).2
          · omega
    · rintro O' h' ⟨e1, s, acc, hk2, o, hO, hlt, rfl, him⟩ md n1 hsub hdf
      refine ⟨md, hdf, e1, s, hk2, ?_⟩
      rw [List.take_length] at o
      rw [List.take_of_length_le him]; exact o
    · rintro i j O' h' ⟨e1, s, acc, hk2, o, hO, hlt, rfl, rfl⟩ hi md n1 hsub hdf
      exact ⟨rfl, md, hdf, e1, s, hk2, o⟩
    · rintro h' ⟨md, hdf, e1, s, hk2, o⟩
      have szm := md.size
      have T' : Tab h' h2.size ns M := (T10.ext x11).mod md (fun b hb e => by have := hinlt b hb; omega)
      refine mFrom_ok T' fun f2 h23 it2 x23 _ => ⟨_, rfl, ?_⟩
      rw [hL] at it2
      refine Collect_ok it2 (fun _ _ => rfl) hLl fun z h24 oz _ x24 => ⟨z, rfl, ?_⟩
      have x2324 : Ext h' h24 := x23.trans x24
      refine LoadL.mk (hget_lit (x2324.blk hk2 (by simp)) rfl) (LoadI.mk (hget_lit (x2324.blk e1 (by simp)) rfl) ?_)
      have hzl := oz.len
      have hzc := oz.view.cap
      have hk : (if ((if (((z.len : Nat) : Int) : Int) < most then ((z.len : Nat) : Int) else most) : Int) > 0 then (if (((z.len : Nat) : Int) : Int) < most then ((z.len : Nat) : Int) else most) else 0) = ((min most.toNat L.length : Nat) : Int) := by
        rw [hzl]
        split <;> split <;> omega
      rw [hk, Int.toNat_natCast]
      refine ⟨by omega, ?_⟩
      have vz := oz.view.sub (lo := 0) (hi := min most.toNat L.length) (by omega) (by omega)
      refine Same_ok (b := ⟨slOff z.p z.cap 0 3, min most.toNat L.length - 0, z.cap - 0⟩) (o.ext x2324).view vz (by simp; omega) ⟨_, rfl, ?_⟩
      have he : L.take most.toNat = (L.take (min most.toNat L.length)).drop 0 := by
        rw [List.drop_zero]
        rcases Nat.le_total most.toNat L.length with h1 | h1
        · rw [Nat.min_eq_left h1]
        · rw [Nat.min_eq_right h1, List.take_length, List.take_of_length_le h1]
      rw [decide_eq_true he]
      have hfin : R (.bool true) (h24.setIfInBounds h11.size (.deferred none)) := by
        refine H _ ?_
        have y11 : Ext h h11 := (((x1.trans x2).trans x4).trans x10).trans x11
        have sy := y11.size
        have y' : Ext h h' := y11.then (md.weak fun c _ hc => .inr (by have := x1.size; omega))
        exact (y'.trans x2324).then (Mod.setObj (.inr (by omega)))
      have hdf24 := x2324.blk hdf (by simp)
      refine PIf.yes rfl (PIf.intro (fun hq => ⟨hdf24, hfin⟩) (fun hq => ?_))
      cases hLc : L with
      | nil => rw [hLc] at hzl; simp [hzl] at hq
      | cons x L' =>
        refine oz.view.idx (i := 0) (x := x) (by rw [hLc]; rfl) fun a _ c => ?_
        refine LoadS.mk c.pair.1 ⟨hdf24, ?_⟩
        have hxk : sLt x.key key = false := by
          have hM0 : M[atK key M]? = some x := by
            have : (M.drop (atK key M))[0]? = some x := by rw [hL, hLc]; rfl
            rw [List.getElem?_drop] at this; simpa using this
          have hlow := low_iff (key := key) T4.sorted hM0
          cases hs : sLt x.key key
          · rfl
          · have := hlow.2 hs; omega
        rw [hxk]
        exact hfin
end Go.Lf.G
