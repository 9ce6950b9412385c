/-
 The skip list: asking; the statements MemRuns and MemStops over the formulas.
-/
import Derived.Test.YteecdmkgblonnaaGreatDoorLfM10ToM11
import Derived.Test.YteecdmkgblonnaaGreatDoorLfX2ToM2
import Derived.Test.YteecdmkgblonnaaGreatDoorLfY6ToS3
import Derived.Test.YteecdmkgblonnaaGreatDoorLfU2ToV2
import Derived.Test.YteecdmkgblonnaaGreatDoorLfB1ToU14
set_option linter.unusedVariables false
set_option linter.unusedSimpArgs false
set_option maxRecDepth 100000
namespace Go.Lf.G.M
open Go Go.Lf Go.Lf.G
theorem mLen_ok {A : Amb} {h : Heap} {t : Nat} {ns : List SNode} {l : List Pr} {R : Value → Heap → Prop} (T : Tab h t ns l) (H : R (.tuple #[.int .i64 (l.length : Int), .int .i64 (sumSz l : Int)]) h) : HCalls A P f_mem_Table_Len #[.pointer (some ⟨t, 0, none⟩)] h R := by
 obtain ⟨nx, L, _⟩ := T.lay
 refine ok_mem_Table_Len ?_
 unfold F_mem_Table_Len
 refine PIf.no rfl ?_
 exact LoadI.mk (hget_lit1 L.head head_n.1) (LoadI.mk (hget_lit1 L.head head_n.2) H)
def zeroP : Pr := ⟨⟨#[]⟩, ⟨#[]⟩, false⟩
def getL (key : ByteArray) (l : List Pr) : Pr × Bool := match l[atK key l]? with | some q => if q.key = key then (q, true) else (zeroP, false) | none => (zeroP, false)
theorem three {h : Heap} {b : Nat} {T : TypeId} {c0 c1 c2 : Value} {k v : ByteArray} {g : Bool} {K : Heap → Prop} (hb : h[b]? = some (.cells #[c0, c1, c2] T (0, 0)))
  (H : ∀ h', h'[b]? = some (.cells #[.string k, .string v, .bool g] T (0, 0)) → Mod (fun c => c = b) h h' → K h') :
  Store h ⟨b, 0, none⟩ (.string k) fun h2 => Store h2 ((⟨b, 0, none⟩ : Addr).add 1) (.string v) fun h3 => Store h3 ((⟨b, 0, none⟩ : Addr).add 2) (.bool g) fun h4 => K h4 := by
 refine Store.mk hb (by simp) fun h2 hb2 m2 hs2 => ?_
 rw [add_mk, add_mk]
 refine Store.mk hb2 (by simp) fun h3 hb3 m3 hs3 => ?_
 refine Store.mk hb3 (by simp) fun h4 hb4 m4 hs4 => ?_
 exact H h4 (by simpa using hb4) ((m2.trans m3).trans m4)
/-- the node at a key's place -/
theorem tab_first {h h' : Heap} {t : Nat} {ns : List SNode} {nx : Nat → Nat → Option Addr} {n sz : Int} {key : ByteArray} {q : Nat → Nat} (L : Lay h t ns nx n sz) (K : Links ns nx) (hq : ∀ i, i < 12 → BeforeP ns key i (q i)) (x : Ext h h') :
  hget h' (((addrAt t ns (q 0)).add 3).add (0 * 1)) = some (.pointer ((ns[atK key (prs ns)]?).map fun y => ⟨y.blk, 0, none⟩)) := by
 have hq0 := Before.zero K.ht (hq 0 (by omega))
 have hak := atK_len key ns
 have h1 := (L.ext x).next (p := q 0) (i := 0) (by rw [hq0]; exact hak) (by omega)
 rw [h1, K.link (q 0) 0 (by rw [hq0]; exact hak) (by omega) (hq 0 (by omega)).ht, hq0, firstAt_zero K.ht]
theorem mGet_ok {A : Amb} {h : Heap} {t : Nat} {ns : List SNode} {l : List Pr} {key : ByteArray} {R : Value → Heap → Prop} (T : Tab h t ns l) (H : ∀ h', Ext h h' → R (.tuple #[(getL key l).1.agg, .bool (getL key l).2]) h') :
  HCalls A P f_mem_Table_Get #[.pointer (some ⟨t, 0, none⟩), .string key] h R := by
 obtain ⟨nx, L, Kl⟩ := T.lay
 refine ok_mem_Table_Get ?_
 unfold F_mem_Table_Get
 refine New.mk fun h1 _ hb hx1 hs1 => PIf.no rfl ?_
 have hss : Sorted (prs ns) := by rw [T.prs]; exact T.sorted
 refine before_ok (L.ext hx1) Kl hss fun q h5 hq x5 => ⟨_, _, _, _, _, _, _, _, _, _, _, _, rfl, ?_⟩
 refine atI ⟨by omega, LoadP.mk (tab_first (L.ext hx1) Kl hq x5) ?_⟩
 have hb5 := x5.blk hb (by simp)
 have x05 : Ext h h5 := hx1.trans x5
 have L5 := L.ext x05
 have hget : getL key l = match ns[atK key (prs ns)]? with | some y => if y.pr.key = key then (y.pr, true) else (zeroP, false) | none => (zeroP, false) := by
  unfold getL
  rw [← T.prs]
  rw [show prs ns = ns.map (·.pr) from rfl, List.getElem?_map]
  cases ns[atK key (ns.map (·.pr))]? <;> rfl
 have hfin : ∀ (g : Pr) (b : Bool) h9, h9[h.size]? = some (.cells #[.string g.key, .string g.val, .bool g.gone] t_api_Pair (0, 0)) → Mod (fun c => c = h.size) h5 h9 → getL key l = (g, b) →
   (LoadS h9 (⟨h.size, 0, none⟩ : Addr) fun r0 => LoadS h9 ((⟨h.size, 0, none⟩ : Addr).add 1) fun r1 => LoadB h9 ((⟨h.size, 0, none⟩ : Addr).add 2) fun r2 => R (.tuple #[.agg #[.string r0, .string r1, .bool r2], .bool b]) h9) := fun g b h9 hb9 m9 e => by
  refine LoadS.mk (hget_lit hb9 rfl) (LoadS.mk (hget_lit1 hb9 rfl) (LoadB.mk (hget_lit1 hb9 rfl) ?_))
  have := H h9 (x05.then (m9.weak fun c _ hc => .inr (by omega)))
  rw [e] at this
  exact this
 refine Join.mk fun K hK => ?_
 have hno : getL key l = (zeroP, false) → K (false, ()) h5 := fun e => hK _ _ (PIf.no rfl (three hb5 fun h9 hb9 m9 => hfin zeroP false h9 hb9 m9 e))
 cases hy : ns[atK key (prs ns)]? with
 | none =>
  rw [hy] at hget
  exact PIf.no rfl (hno hget)
 | some y =>
  rw [hy] at hget
  refine PIf.yes rfl (atI ?_)
  have hrow := L5.pair hy
  refine LoadS.mk hrow.1 ?_
  rw [sEq_iff]
  by_cases hk : y.pr.key = key
  ·rw [decide_eq_true hk]
   refine hK _ _ (PIf.yes rfl ?_)
   rw [hy]
   refine atI (LoadS.mk hrow.1 (LoadS.mk hrow.2.1 (LoadB.mk hrow.2.2 ?_)))
   simp only [hk, if_true] at hget
   exact three hb5 fun h9 hb9 m9 => hfin y.pr true h9 hb9 m9 hget
  ·rw [decide_eq_false hk]
   simp only [hk, if_false] at hget
   exact hno hget
theorem cat2 {y c d : Value} : (#[] ++ #[y] ++ #[c, d] : Array Value) = #[y, c, d] := rfl
theorem From1_ok {A : Amb} {h0 : Heap} {b c t : Nat} {T T' : TypeId} {fr fr' : Nat × Nat} {ns : List SNode} {l : List Pr} {key : ByteArray} (hb : h0[b]? = some (.cells #[.pointer (some ⟨t, 0, none⟩)] T fr)) (hc : h0[c]? = some (.cells #[.string key] T' fr')) (Tb : Tab h0 t ns l) :
  IterV A P (.func (.func f_mem_Table_From_1) #[] #[.pointer (some ⟨b, 0, none⟩), .pointer (some ⟨c, 0, none⟩)]) (fun d => inT t ns d ∨ d = b ∨ d = c) h0 (l.drop (atK key l)) := by
 refine ⟨?_, _, _, rfl, fun yv => by kernel_rfl, fun h hS yv J O hy hd hB hY hJ => ?_⟩
 ·rintro d (hd | rfl | rfl)
  ·exact Tb.lt hd
  ·exact blk_lt hb
  ·exact blk_lt hc
 rw [cat2]
 refine ok_mem_Table_From_1 ?_
 unfold F_mem_Table_From_1
 have hbh := (hS b (.inr (.inl rfl))).trans hb
 have hch := (hS c (.inr (.inr rfl))).trans hc
 obtain ⟨nx, L0, Kl⟩ := Tb.lay
 have L : Lay h t ns nx (l.length : Int) (sumSz l : Int) :=
  ⟨(hS t (.inl (.inl rfl))).trans L0.head, fun j x hx => ⟨(hS x.blk (.inl (.inr ⟨x, List.mem_of_getElem? hx, rfl⟩))).trans (L0.node j x hx).1, (L0.node j x hx).2⟩, L0.apart⟩
 have hdO : ∀ d, inT t ns d → ¬ O d := fun d hd' => hd d (.inl hd')
 refine LoadP.mk (hget_lit hbh rfl) (PIf.no rfl (LoadP.mk (hget_lit hbh rfl) (LoadS.mk (hget_lit hch rfl) ?_)))
 have hss : Sorted (prs ns) := by rw [Tb.prs]; exact Tb.sorted
 refine before_ok L Kl hss fun q h1 hq x1 => ⟨_, _, _, _, _, _, _, _, _, _, _, _, rfl, ?_⟩
 refine atI ⟨by omega, LoadP.mk (tab_first L Kl hq x1) ?_⟩
 have hal : atK key (prs ns) = atK key l := by rw [Tb.prs]
 have hle := atK_le key l
 have hnl : ns.length = l.length := by rw [← Tb.prs]; simp
 rw [hal]
 have hJ1 := hB.stable _ _ _ _ _ hJ (x1.weak (S' := fun b => ¬ O b ∧ h.size ≤ b) fun _ _ h => h.elim)
 refine Loop.rule (fun m x hh => ∃ (j : Nat) (O1 : Nat → Prop), x = ((ns[atK key l + j]?).map fun y => (⟨y.blk, 0, none⟩ : Addr), ()) ∧ m = l.length - (atK key l + j) ∧ atK key l + j ≤ l.length ∧ Mod O h hh ∧ (∀ b, O1 b → O b ∨ h.size ≤ b) ∧ J j true O1 hh) ?_
  ⟨0, O, rfl, rfl, by omega, x1.mod, fun b hb => .inl hb, hJ1⟩
 rintro K m _ hh ⟨j, O1, rfl, rfl, hj, md, hsub, hjj⟩ hK
 have hdl : (l.drop (atK key l)).length = l.length - atK key l := by simp
 cases hy : ns[atK key l + j]? with
 | none =>
  have := List.getElem?_eq_none_iff.1 hy
  refine PIf.no rfl ?_
  exact ⟨rfl, j, true, O1, md, hsub, hjj, fun _ => by rw [hdl]; omega, by rw [hdl]; omega⟩
 | some y =>
  have hlt := (List.getElem?_eq_some_iff.1 hy).1
  have hrow := (L.mod md hdO).pair hy
  refine PIf.yes rfl (atI (LoadS.mk hrow.1 (LoadS.mk hrow.2.1 (LoadB.mk hrow.2.2 ?_))))
  have hget : (l.drop (atK key l))[j]? = some y.pr := by
   rw [List.getElem?_drop]
   have h5 : (prs ns)[atK key l + j]? = some y.pr := by rw [show prs ns = ns.map (·.pr) from rfl, List.getElem?_map, hy]; rfl
   rw [Tb.prs] at h5
   exact h5
  refine CallV.mono (hY j y.pr O1 hh hget hjj) ?_
  rintro _ h3 ⟨g, O2, rfl, hsub2, m3, hj3⟩
  have szm := md.size
  have hsub3 : ∀ b, O2 b → O b ∨ h.size ≤ b := fun b hb => (hsub2 b hb).elim (hsub b) fun h1 => .inr (by omega)
  have md3 : Mod O h h3 := md.then (m3.weak fun b _ hb => hsub b hb)
  refine ⟨g, rfl, PIf.intro (fun hq => ?_) (fun hq => ?_)⟩
  ·have hg : g = false := by simpa using hq
   subst hg
   exact ⟨rfl, j + 1, false, O2, md3, hsub3, hj3, (fun h => by cases h), by rw [hdl]; omega⟩
  ·have hg : g = true := by simpa using hq
   subst hg
   refine atI ⟨by omega, ?_⟩
   have hnx := (L.mod md3 hdO).next (p := atK key l + j + 1) (i := 0) (by omega) (by omega)
   have ea : addrAt t ns (atK key l + j + 1) = ⟨y.blk, 0, none⟩ := by simp [addrAt, hy]
   rw [ea, Kl.link _ 0 (by omega) (by omega) (by have := (Kl.ht y (List.mem_of_getElem? hy)).1; simp [htAt, hy]; omega), firstAt_zero Kl.ht] at hnx
   refine LoadP.mk hnx ?_
   exact hK (l.length - (atK key l + (j + 1))) _ _ (by omega) ⟨j + 1, O2, rfl, rfl, by omega, md3, hsub3, hj3⟩
theorem mFrom_ok {A : Amb} {h : Heap} {t : Nat} {ns : List SNode} {l : List Pr} {key : ByteArray} {R : Value → Heap → Prop} (T : Tab h t ns l)
  (H : ∀ fv h', IterV A P fv (fun d => inT t ns d ∨ d = h.size ∨ d = h.size + 1) h' (l.drop (atK key l)) → Ext h h' → h'.size = h.size + 2 → R fv h') : HCalls A P f_mem_Table_From #[.pointer (some ⟨t, 0, none⟩), .string key] h R := by
 refine ok_mem_Table_From ?_
 unfold F_mem_Table_From
 refine New.mk fun h1 _ hb1 x1 hs1 => New.mk fun h2 _ hb2 x2 hs2 => ?_
 have x02 : Ext h h2 := x1.trans x2
 have hh := From1_ok (A := A) (x2.blk hb1 (by simp)) hb2 (T.ext x02) (key := key)
 refine H _ h2 (hh.weak ?_ ?_ (fun c _ => rfl)) x02 (by omega)
 ·rintro d (hd | rfl | rfl)
  ·exact .inl hd
  ·exact .inr (.inl rfl)
  ·exact .inr (.inr hs1)
 ·rintro d (hd | rfl | rfl)
  ·exact (T.ext x02).lt hd
  ·omega
  ·omega
theorem atK_empty (l : List Pr) : atK ⟨#[]⟩ l = 0 := by
 have : ∀ x : ByteArray, sLt x ⟨#[]⟩ = false := fun x => by
  have e : (⟨#[]⟩ : ByteArray).toList = [] := by simp [ByteArray.toList_eq]
  unfold sLt
  rw [e]
  cases x.toList <;> rfl
 cases l with
 | nil => rfl
 | cons x l => simp [atK, lowK, this]
theorem drop_empty (l : List Pr) : l.drop (atK ⟨#[]⟩ l) = l := by rw [atK_empty]; rfl
def qb : Pr := ⟨⟨#[98]⟩, ⟨#[49]⟩, false⟩
end Go.Lf.G.M

/-
 Contracts: a table is read.
-/
set_option maxRecDepth 100000
set_option linter.unusedVariables false
set_option linter.unusedSimpArgs false
namespace Go.Lf.G
open Go
open M (atK findK Sorted GoodL)
/-! ### plain law: where a key stands -/
theorem gt_key (a b : ByteArray) : (!(sLt a b || sEq a b)) = sLt b a := by
 cases h : sLt b a with
 | true =>
  have h1 : sLt a b = false := by
   cases h2 : sLt a b with
   | false => rfl
   | true => have := sLt_trans h h2; rw [sLt_irrefl] at this; cases this
  have h2 : sEq a b = false := by
   rw [sEq_iff, decide_eq_false_iff_not]
   rintro rfl
   rw [sLt_irrefl] at h; cases h
  rw [h1, h2]; rfl
 | false =>
  cases h1 : sLt a b with
  | true => rfl
  | false =>
   have := sLt_tri h1 h
   subst this
   rw [sEq_iff]; simp
theorem lt_of_lt_nlt {a b c : ByteArray} (h1 : sLt a b = true) (h2 : sLt c b = false) : sLt a c = true := by
 cases h : sLt a c with
 | true => rfl
 | false =>
  cases h3 : sLt c a with
  | true => rw [sLt_trans h3 h1] at h2; cases h2
  | false =>
   have := sLt_tri h h3
   subst this
   rw [h1] at h2; cases h2
theorem inc_lt {l : List Pr} (h : Sorted l) {i j : Nat} {p q : Pr} (hp : l[i]? = some p) (hq : l[j]? = some q) (hij : i < j) : sLt p.key q.key = true := by
 obtain ⟨h1, rfl⟩ := List.getElem?_eq_some_iff.1 hp
 obtain ⟨h2, rfl⟩ := List.getElem?_eq_some_iff.1 hq
 exact List.pairwise_iff_getElem.1 h _ _ h1 h2 hij
/-- the block in which a key would stand -/
structure BlkOf (l : List Pr) (key : ByteArray) (B : Nat) : Prop where
 lt : B < nblk l
 below : ∀ (x : Nat) (p : Pr), x < 8 * B → l[x]? = some p → sLt p.key key = true
 there : ∀ (x : Nat) (p : Pr), l[x]? = some p → p.key = key → 8 * B ≤ x ∧ x < 8 * B + 8
theorem blk_of {l : List Pr} {key : ByteArray} {k : Nat} (hs : Sorted l) (hne : l ≠ []) (hk : k ≤ nblk l) (h1 : ∀ j, j < k → sLt key (keyAt l (8 * j)) = false) (h2 : k < nblk l → sLt key (keyAt l (8 * k)) = true) : BlkOf l key (k - 1) := by
 have hN := nblk_pos hne
 have hget : ∀ j, j < nblk l → ∃ q, l[8 * j]? = some q ∧ keyAt l (8 * j) = q.key := by
  intro j hj
  have : 8 * j < l.length := by unfold nblk at hj; omega
  exact ⟨l[8 * j], List.getElem?_eq_getElem this, by unfold keyAt; rw [List.getElem?_eq_getElem this]⟩
 have hb : ∀ (x : Nat) (p : Pr), x < 8 * (k - 1) → l[x]? = some p → sLt p.key key = true := by
  intro x p hx hp
  obtain ⟨q, hq, e⟩ := hget (k - 1) (by omega)
  have hlt := inc_lt hs hp hq hx
  have := h1 (k - 1) (by omega)
  rw [e] at this
  exact lt_of_lt_nlt hlt this
 refine ⟨by omega, hb, fun x p hp e => ⟨?_, ?_⟩⟩
 ·apply Nat.le_of_not_lt
  intro hx
  have := hb x p hx hp
  rw [e, sLt_irrefl] at this; cases this
 ·apply Nat.lt_of_not_le
  intro hx
  have hxl := (List.getElem?_eq_some_iff.1 hp).1
  have step : ∀ j, 8 * j ≤ x → j < nblk l → sLt key (keyAt l (8 * j)) = true → False := by
   intro j hj hjn hlt
   obtain ⟨q, hq, e2⟩ := hget j hjn
   rw [e2] at hlt
   rcases Nat.lt_or_ge (8 * j) x with h | h
   ·have := inc_lt hs hq hp h
    have := sLt_trans hlt this
    rw [e, sLt_irrefl] at this; cases this
   ·have : 8 * j = x := by omega
    rw [this, hp] at hq
    cases hq
    rw [e, sLt_irrefl] at hlt; cases hlt
  have hkn : k < nblk l := by unfold nblk; omega
  exact step k (by omega) hkn (h2 hkn)
/-! ### sort.Search -/
theorem mid_int {i j : Nat} (h : i + j ≤ 2 * 1099511627776) : IntKind.wrap .i64 ((IntKind.wrap .u64 (IntKind.wrap .i64 (((i : Nat) : Int) + ((j : Nat) : Int)))).fdiv ((2 : Int) ^ (1 : Nat))) = (((i + j) / 2 : Nat) : Int) := by
 rw [show ((i : Nat) : Int) + ((j : Nat) : Int) = ((i + j : Nat) : Int) by omega, wrap_nat (by omega), wrap_u64n (by omega), fdiv_nat, wrap_nat (by omega)]
theorem Search_ok {A : Amb} {h : Heap} {fv : Value} {n : Nat} {p : Nat → Bool} {R : Value → Heap → Prop} (hn : n ≤ 1099511627776) (hmono : ∀ i j, i ≤ j → j < n → p i = true → p j = true)
  (hcall : ∀ i hh, i < n → Ext h hh → CallV A P fv #[.int .i64 (i : Int)] hh fun v h' => v = .bool (p i) ∧ Ext hh h')
  (H : ∀ k h', k ≤ n → (∀ j, j < k → p j = false) → (k < n → p k = true) → Ext h h' → R (.int .i64 (k : Int)) h') : HCalls A P f_sort_Search #[.int .i64 (n : Int), fv] h R := by
 refine ok_sort_Search ?_
 unfold F_sort_Search
 refine Loop.rule (fun m x hh => ∃ i j : Nat, x = ((i : Int), (j : Int), ()) ∧ m = j - i ∧ i ≤ j ∧ j ≤ n ∧ (∀ a, a < i → p a = false) ∧ (j < n → p j = true) ∧ Ext h hh) ?_ ⟨0, n, rfl, rfl, by omega, Nat.le_refl _, fun a ha => by omega, fun h => by omega, Mod.refl⟩
 rintro K m _ hh ⟨i, j, rfl, rfl, hij, hj, hlo, hhi, xx⟩ hK
 dsimp only
 refine PIf.intro (fun hq => ?_) (fun hq => ?_)
 ·have hij : i < j := by simp at hq; omega
  rw [mid_int (by omega)]
  refine Join.mk fun K1 hK1 => ?_
  have hm : (i + j) / 2 < n := by omega
  refine CallV.mono (hcall _ hh hm xx) ?_
  rintro v h' ⟨rfl, x'⟩
  refine ⟨_, rfl, PIf.intro (fun hb => ?_) (fun hb => ?_)⟩
  ·have hb : p ((i + j) / 2) = false := by simpa using hb
   refine hK1 _ _ ?_
   dsimp only
   rw [wrap_succ (by omega)]
   refine hK (j - ((i + j) / 2 + 1)) _ _ (by omega) ⟨(i + j) / 2 + 1, j, rfl, rfl, by omega, hj, fun a ha => ?_, hhi, xx.trans x'⟩
   cases h : p a with
   | false => rfl
   | true => rw [hmono a _ (by omega) hm h] at hb; cases hb
  ·have hb : p ((i + j) / 2) = true := by simpa using hb
   refine hK1 _ _ ?_
   exact hK ((i + j) / 2 - i) _ _ (by omega) ⟨i, (i + j) / 2, rfl, rfl, by omega, by omega, hlo, fun _ => hb, xx.trans x'⟩
 ·have hij : i = j := by simp at hq; omega
  subst hij
  exact H i hh hj hlo hhi xx
/-! ### the block of a key -/
abbrev f_block1 : FuncId := f_table_Table_block_1
theorem block_ok {A : Amb} {h : Heap} {t lo hi : Nat} {l : List Pr} {f : List UInt8} {key : ByteArray} {R : Value → Heap → Prop} (T : TabAt h t l f lo hi) (S : TabS (wraps (framesT l f)) l f)
  (H : ∀ h' B, BlkOf l key B → Ext h h' → R (.int .i64 (B : Int)) h') : HCalls A P f_table_Table_block #[ptrV t, .string key] h R := by
 refine ok_table_Table_block ?_
 unfold F_table_Table_block
 refine New.mk fun h1 _ hb1 x1 hs1 => New.mk fun h2 _ hb2 x2 hs2 => ?_
 have hb1' := ext_cells x2 hb1
 have x02 := x1.trans x2
 obtain ⟨fs, bs, ht, vf, vb, _, _⟩ := (T.ext x02).at_
 refine LoadP.mk (hget_lit hb1' rfl) (atI ?_)
 refine LoadL.mk (s := fs) (hget_lit ht rfl) ?_
 have hfl : fs.len = nblk l := by rw [vf.len, firsts_len]
 have hmany := S.many
 have hN : nblk l ≤ 12501 := by unfold nblk; omega
 rw [hfl]
 have hkey : ∀ j, j < nblk l → ∃ q, l[8 * j]? = some q ∧ keyAt l (8 * j) = q.key := by
  intro j hj
  have : 8 * j < l.length := by unfold nblk at hj; omega
  exact ⟨l[8 * j], List.getElem?_eq_getElem this, by unfold keyAt; rw [List.getElem?_eq_getElem this]⟩
 refine Search_ok (p := fun j => sLt key (keyAt l (8 * j))) (by omega) (fun i j hij hj hp => ?_) (fun i hh hi xh => ?_) fun k h3 hk h1 h2' x3 => ⟨_, rfl, ?_⟩
 ·rcases Nat.lt_or_ge i j with h | h
  ·obtain ⟨q1, e1, e2⟩ := hkey i (by omega)
   obtain ⟨q2, e3, e4⟩ := hkey j hj
   have := inc_lt S.inc e1 e3 (by omega)
   rw [e2] at hp
   rw [e4]
   exact sLt_trans hp this
  ·have : i = j := by omega
   rw [this] at hp; exact hp
 ·have hcv := CallV.func (A := A) (P := P) (f := f_block1) (first := #[]) (caps := #[ptrV h.size, ptrV h1.size]) (args := #[.int .i64 (i : Int)]) (h := hh) (R := fun v h' => v = .bool (sLt key (keyAt l (8 * i))) ∧ Ext hh h') (by kernel_rfl) ?_
  ·exact hcv
  ·show HCalls A P f_block1 #[.int .i64 (i : Int), ptrV h.size, ptrV h1.size] hh _
   refine ok_table_Table_block_1 ?_
   unfold F_table_Table_block_1
   refine atI (LoadP.mk (hget_lit (ext_cells xh hb1') rfl) (atI ?_))
   refine LoadL.mk (s := fs) (hget_lit (ext_cells xh ht) rfl) ?_
   refine (vf.ext xh).idx (firsts_get hi) fun a ha hc => ?_
   rw [Int.toNat_natCast]
   refine LoadS.mk hc.str (atI ?_)
   refine LoadS.mk (hget_lit (ext_cells xh hb2) rfl) ?_
   rw [gt_key]
   exact ⟨rfl, Mod.refl⟩
 ·have e : (if ((IntKind.wrap .i64 (((k : Nat) : Int) - (1 : Int))) : Int) > 0 then (IntKind.wrap .i64 (((k : Nat) : Int) - (1 : Int))) else 0) = ((k - 1 : Nat) : Int) := by
   rw [wrap_i64 (by omega) (by omega)]
   split <;> omega
  rw [e]
  exact H h3 (k - 1) (blk_of S.inc S.ne hk h1 h2') (x02.trans x3)
/-! ### a key's pair -/
def getT (key : ByteArray) (l : List Pr) : Pr × Bool := match findK key l with | some q => (q, true) | none => (M.zeroP, false)
theorem find_of {l : List Pr} (hs : Sorted l) {p : Pr} (hp : p ∈ l) : findK p.key l = some p := by
 unfold findK
 cases h : l.find? fun q => decide (q.key = p.key) with
 | none =>
  have := List.find?_eq_none.1 h p hp
  simp at this
 | some q =>
  have h1 := List.find?_some h
  have h1 : q.key = p.key := of_decide_eq_true h1
  obtain ⟨i, hi⟩ := List.getElem?_of_mem (List.mem_of_find?_eq_some h)
  obtain ⟨j, hj⟩ := List.getElem?_of_mem hp
  rcases Nat.lt_trichotomy i j with hij | hij | hij
  ·have := inc_lt hs hi hj hij
   rw [h1, sLt_irrefl] at this; cases this
  ·subst hij
   rw [hi] at hj; exact hj
  ·have := inc_lt hs hj hi hij
   rw [h1, sLt_irrefl] at this; cases this
theorem find_none {l : List Pr} {key : ByteArray} (h : ∀ p ∈ l, p.key ≠ key) : findK key l = none := by
 unfold findK
 rw [List.find?_eq_none]
 intro p hp
 simpa using h p hp
theorem TGet_ok {A : Amb} {h : Heap} {t lo hi : Nat} {l : List Pr} {f : List UInt8} {key : ByteArray} {R : Value → Heap → Prop} (T : TabAt h t l f lo hi) (S : TabS (wraps (framesT l f)) l f) (hk : key.size ≤ 1099511627776)
  (H : ∀ h', Ext h h' → R (.tuple #[(getT key l).1.agg, .bool (getT key l).2]) h') : HCalls A P f_table_Table_Get #[ptrV t, .string key] h R := by
 refine ok_table_Table_Get ?_
 unfold F_table_Table_Get
 refine New.mk fun h1 _ hb1 x1 hs1 => ?_
 have tail : ∀ g x, Ext h g → g[h.size]? = some (.cells #[.string ⟨#[]⟩, .string ⟨#[]⟩, .bool false] t_api_Pair (0, 0)) → ∀ (q : Pr) (b : Bool), getT key l = (q, b) → x = Value.tuple #[.agg #[.string q.key, .string q.val, .bool q.gone], .bool b] →
   ∀ {c0 c1 : ByteArray} {c2 : Bool}, c0 = q.key → c1 = q.val → c2 = q.gone →
   Store g (⟨h.size, 0, none⟩ : Addr) (.string c0) fun h3 => Store h3 ((⟨h.size, 0, none⟩ : Addr).add 1) (.string c1) fun h4 => Store h4 ((⟨h.size, 0, none⟩ : Addr).add 2) (.bool c2) fun h5 =>
    LoadS h5 (⟨h.size, 0, none⟩ : Addr) fun r0 => LoadS h5 ((⟨h.size, 0, none⟩ : Addr).add 1) fun r1 => LoadB h5 ((⟨h.size, 0, none⟩ : Addr).add 2) fun r2 => R (.tuple #[.agg #[.string r0, .string r1, .bool r2], .bool b]) h5 := by
  intro g x xg hbg q b e1 e2 c0 c1 c2 d0 d1 d2
  subst d0 d1 d2
  refine Store.mk hbg (by simp) fun h3 hb3 m3 hs3 => ?_
  rw [add_mk, add_mk]
  refine Store.mk hb3 (by simp) fun h4 hb4 m4 hs4 => ?_
  refine Store.mk hb4 (by simp) fun h5 hb5 m5 hs5 => ?_
  refine LoadS.mk (hget_lit hb5 rfl) (LoadS.mk (hget_lit hb5 rfl) (LoadB.mk (hget_lit hb5 rfl) ?_))
  have hx : Ext h h5 := ⟨by have := xg.size; omega, fun c hc _ => (m5.get c (by have := xg.size; omega) (by omega)).trans ((m4.get c (by have := xg.size; omega) (by omega)).trans ((m3.get c (by have := xg.size; omega) (by omega)).trans (xg.get c hc (fun h => h))))⟩
  have := H h5 hx
  rw [e1] at this
  exact this
 refine Join.mk fun K hK => ?_
 refine PIf.no rfl (atI ?_)
 obtain ⟨fs, bs, ht, vf, vb, _, _⟩ := (T.ext x1).at_
 refine LoadS.mk (hget_lit1 ht rfl) ?_
 refine Has_ok hk ⟨_, rfl, ?_⟩
 rw [bl_strL]
 refine hK _ _ ?_
 refine PIf.intro (fun hq => ?_) (fun hq => ?_)
 ·have hq : hasF f key = false := by simpa using hq
  have hn : findK key l = none := find_none fun p hp e => by
   have := S.has p hp
   rw [e, hq] at this; cases this
  exact tail h1 _ x1 hb1 M.zeroP false (by unfold getT; rw [hn]) rfl rfl rfl rfl
 ·refine atI (LoadL.mk (s := bs) (hget_lit1 ht rfl) ?_)
  refine block_ok (T.ext x1) S fun h6 B hB x6 => ⟨_, rfl, hget_lit1 (ext_cells x6 ht) rfl, ?_⟩
  have hxb : ((blks l).map fun b => strL (pairsL b))[B]? = some (strL (pairsL (blkT l B))) := by simp [blks, hB.lt]
  refine (vb.ext x6).idx hxb fun a1 ha1 hc1 => ?_
  rw [Int.toNat_natCast]
  refine LoadS.mk hc1.str ?_
  have hob : ∀ p ∈ blkT l B, PrOk p := fun p hp => S.ok p (blk_mem hp)
  have hbp := blk_pairs S.ok hB.lt
  refine pairs_ok hob (by omega) fun ps h7 op x7 bp => ⟨_, _, rfl, ?_⟩
  have hpl : ps.len = (blkT l B).length := op.len
  have hbl := blkT_len hB.lt
  have xx7 := (x1.trans x6).trans x7
  have hb7 := ext_cells x7 (ext_cells x6 hb1)
  refine Loop.rule (fun m x hh => ∃ j : Nat, x = ((j : Int), ()) ∧ m = (blkT l B).length - j ∧ j ≤ (blkT l B).length ∧ (∀ i p, i < j → (blkT l B)[i]? = some p → p.key ≠ key) ∧ Ext h7 hh) ?_ ⟨0, rfl, rfl, by omega, fun i p hi => by omega, Mod.refl⟩
  rintro K1 m _ h8 ⟨j, rfl, rfl, hj, hno, x8⟩ hK1
  dsimp only
  refine PIf.intro (fun hq => ?_) (fun hq => ?_)
  ·have hjl : j < (blkT l B).length := by rw [hpl] at hq; simp at hq; omega
   have hx : (blkT l B)[j]? = some (blkT l B)[j] := List.getElem?_eq_getElem hjl
   have hmem : (blkT l B)[j] ∈ l := blk_mem (List.getElem_mem hjl)
   generalize (blkT l B)[j] = p at hx hmem
   refine (op.ext x8).view.idx hx fun a2 ha2 hc2 => ?_
   obtain ⟨c0, c1, c2⟩ := hc2.pair
   rw [Int.toNat_natCast]
   refine LoadS.mk c0 (LoadS.mk c1 (LoadB.mk c2 ?_))
   refine New.pair fun b1 h12 hbe hb12 x12 hs12 => ?_
   refine LoadS.mk (hget_lit hb12 rfl) ?_
   refine PIf.intro (fun he => ?_) (fun he => ?_)
   ·rw [sEq_iff, decide_eq_true_iff] at he
    refine LoadS.mk (hget_lit hb12 rfl) (LoadS.mk (hget_lit1 hb12 rfl) (LoadB.mk (hget_lit1 hb12 rfl) ?_))
    have hf := find_of S.inc hmem
    rw [he] at hf
    exact tail h12 _ ((xx7.trans x8).trans x12) (ext_cells x12 (ext_cells x8 hb7)) p true (by unfold getT; rw [hf]) rfl rfl rfl rfl
   ·rw [sEq_iff, decide_eq_false_iff_not] at he
    rw [wrap_succ (by omega)]
    refine hK1 ((blkT l B).length - (j + 1)) _ _ (by omega) ⟨j + 1, rfl, rfl, hjl, fun i q hi hqq => ?_, x8.trans x12⟩
    by_cases hij : i = j
    ·rw [hij, hx] at hqq; cases hqq
     exact he
    ·exact hno i q (by omega) hqq
  ·have hjl : j = (blkT l B).length := by rw [hpl] at hq; simp at hq; omega
   have hn : findK key l = none := find_none fun p hp e => by
    obtain ⟨x, hx⟩ := List.getElem?_of_mem hp
    obtain ⟨h1, h2⟩ := hB.there x p hx e
    have hxx : (blkT l B)[x - 8 * B]? = some p := by
     rw [blkT_get (by omega), show 8 * B + (x - 8 * B) = x by omega]; exact hx
    have := (List.getElem?_eq_some_iff.1 hxx).1
    exact hno (x - 8 * B) p (by omega) hxx e
   exact tail h8 _ (xx7.trans x8) (ext_cells x8 hb7) M.zeroP false (by unfold getT; rw [hn]) rfl rfl rfl rfl
/-! ### the pairs from a key on -/
theorem at_iff {key : ByteArray} {l : List Pr} (hs : Sorted l) {x : Nat} {p : Pr} (hp : l[x]? = some p) : x < atK key l ↔ sLt p.key key = true := M.low_iff hs hp
theorem TFrom1_ok {A : Amb} {h0 : Heap} {b c t lo hi : Nat} {T1 T2 : TypeId} {l : List Pr} {f : List UInt8} {key : ByteArray} (hb : h0[b]? = some (.cells #[ptrV t] T1 (0, 0))) (hc : h0[c]? = some (.cells #[.string key] T2 (0, 0)))
  (T : TabAt h0 t l f lo hi) (hhi : hi ≤ h0.size) (S : TabS (wraps (framesT l f)) l f) :
  IterV A P (.func (.func f_table_Table_From_1) #[] #[ptrV b, ptrV c]) (fun d => (lo ≤ d ∧ d < hi) ∨ d = b ∨ d = c) h0 (l.drop (atK key l)) := by
 refine ⟨?_, _, _, rfl, fun yv => by kernel_rfl, fun h hS yv J O hy hd hB hY hJ => ?_⟩
 ·rintro d (hd | rfl | rfl)
  ·omega
  ·exact blk_lt hb
  ·exact blk_lt hc
 rw [M.cat2]
 refine ok_table_Table_From_1 ?_
 unfold F_table_Table_From_1
 have hbh := (hS b (.inr (.inl rfl))).trans hb
 have hch := (hS c (.inr (.inr rfl))).trans hc
 have hT : TabAt h t l f lo hi := by
  obtain ⟨fs, bs, h1, h2, h3, h4, h5⟩ := T.at_
  have vw : ∀ {s : Sl} {ks : List ByteArray}, View StrE h0 s ks → (∀ d, s.blk = some d → lo ≤ d ∧ d < hi) → View StrE h s ks := fun v hs => ⟨v.len, v.cap, fun i x hi => by
   obtain ⟨a, ha, hcc⟩ := v.cells i x hi
   refine ⟨a, ha, fun j v hj => ?_⟩
   rw [← hcc j v hj]
   exact hget_blk (by rw [add_block, add_block]; exact hS _ (.inl (hs _ (by simp [Sl.blk, ha]))))⟩
  exact ⟨⟨fs, bs, (hS t (.inl T.tlt)).trans h1, vw h2 h4, vw h3 h5, h4, h5⟩, T.tlt⟩
 have hdO : ∀ d, lo ≤ d → d < hi → ¬ O d := fun d h1 h2 => hd d (.inl ⟨h1, h2⟩)
 obtain ⟨fs, bs, ht, vf, vb, b1, b2⟩ := hT.at_
 refine atI (LoadP.mk (hget_lit hbh rfl) (PIf.no rfl (atI (LoadP.mk (hget_lit hbh rfl) (atI (LoadL.mk (s := bs) (hget_lit1 ht rfl) (atI (LoadP.mk (hget_lit hbh rfl) (atI (LoadS.mk (hget_lit hch rfl) ?_)))))))))) 
 refine block_ok hT S fun h1 B hBk x1 => ⟨_, rfl, hget_lit1 (ext_cells x1 ht) rfl, hget_lit (ext_cells x1 hbh) rfl, ?_⟩
 have hbl : bs.len = nblk l := by rw [vb.len]; simp [blks_len]
 have hBlt := hBk.lt
 refine ⟨by rw [hbl]; omega, ?_⟩
 rw [Int.toNat_natCast, hbl]
 have hle := M.atK_le key l
 have hmany := S.many
 have hN : nblk l ≤ 12501 := by unfold nblk; omega
 have hat : 8 * B ≤ atK key l := by
  apply Nat.le_of_not_lt
  intro hlt
  have hlen : atK key l < l.length := by unfold nblk at hBlt; omega
  obtain ⟨q, hx⟩ : ∃ q, l[atK key l]? = some q := ⟨_, List.getElem?_eq_getElem hlen⟩
  have h1 := hBk.below _ _ hlt hx
  have h2 := (at_iff S.inc hx).2 h1
  omega
 have hdl : (l.drop (atK key l)).length = l.length - atK key l := by simp
 have hJ1 := hB.stable _ _ _ _ _ hJ (x1.weak (S' := fun b => ¬ O b ∧ h.size ≤ b) fun _ _ h => h.elim)
 have hvb : View StrE h ⟨slOff bs.p bs.cap B 1, nblk l - B, bs.cap - B⟩ (((blks l).map fun b => strL (pairsL b)).drop B) := by
  have := vb.sub (lo := B) (hi := nblk l) (by omega) (by simp [blks_len])
  rw [List.take_of_length_le (by simp [blks_len])] at this
  exact this
 have hvblk : ∀ d, Sl.blk ⟨slOff bs.p bs.cap B 1, nblk l - B, bs.cap - B⟩ = some d → ¬ O d := fun d hd' => by
  have := b2 d (slOff_blk hd'); exact hdO d this.1 this.2
 refine Loop.rule (fun m x hh => ∃ (i : Nat) (O1 : Nat → Prop), x = ((i : Int), ()) ∧ m = nblk l - B - i ∧ i ≤ nblk l - B ∧ Mod O h hh ∧ (∀ b, O1 b → O b ∨ h.size ≤ b) ∧ J (min (8 * (B + i)) l.length - atK key l) true O1 hh) ?_
  ⟨0, O, rfl, rfl, by omega, x1.mod, fun b hb => .inl hb, by
   have : min (8 * (B + 0)) l.length - atK key l = 0 := by omega
   rw [this]; exact hJ1⟩
 rintro K m _ hh ⟨i, O1, rfl, rfl, hi, md, hsub, hjj⟩ hK
 dsimp only
 refine PIf.intro (fun hq => ?_) (fun hq => ?_)
 ·have hil : i < nblk l - B := by simp at hq; omega
  have hin : B + i < nblk l := by omega
  have h8 : 8 * (B + i) < l.length := by unfold nblk at hin; omega
  have hxb : (((blks l).map fun b => strL (pairsL b)).drop B)[i]? = some (strL (pairsL (blkT l (B + i)))) := by rw [List.getElem?_drop]; simp [blks, hin]
  refine (hvb.mod md hvblk).idx hxb fun a5 ha5 hc5 => ?_
  rw [Int.toNat_natCast]
  refine LoadS.mk hc5.str ?_
  have hob : ∀ p ∈ blkT l (B + i), PrOk p := fun p hp => S.ok p (blk_mem hp)
  have hbp := blk_pairs S.ok hin
  have hbl8 := blkT_len hin
  refine pairs_ok hob (by omega) fun ps h3 op x3 bp => ⟨_, _, rfl, ?_⟩
  have hpl : ps.len = (blkT l (B + i)).length := op.len
  have hmin : min (8 * (B + i)) l.length = 8 * (B + i) := by omega
  rw [hmin] at hjj
  have szm := md.size
  have hOlt := hB.wf _ _ _ _ hjj
  have hJ3 := hB.stable _ _ _ _ _ hjj (x3.weak (S' := fun b => ¬ O1 b ∧ h.size ≤ b) fun _ _ h => h.elim)
  have md3 : Mod O h h3 := md.trans x3.mod
  refine Loop.rule (fun m x hh4 => ∃ (j : Nat) (O2 : Nat → Prop), x = ((j : Int), ()) ∧ m = (blkT l (B + i)).length - j ∧ j ≤ (blkT l (B + i)).length ∧ Mod O h hh4 ∧ (∀ b, O2 b → O b ∨ h.size ≤ b) ∧ (∀ d, ps.blk = some d → ¬ O2 d ∧ d < hh4.size) ∧ View PairE hh4 ps (blkT l (B + i)) ∧ J (8 * (B + i) + j - atK key l) true O2 hh4) ?_
   ⟨0, O1, rfl, rfl, by omega, md3, hsub, fun d hd' => ⟨fun h => by have := bp d hd'; have := hOlt d h; omega, op.lt hd'⟩, op.view, hJ3⟩
  rintro K1 m _ h4 ⟨j, O2, rfl, rfl, hj, md4, hsub2, hpb, vp, hj4⟩ hK1
  dsimp only
  refine PIf.intro (fun hq => ?_) (fun hq => ?_)
  ·have hjl : j < (blkT l (B + i)).length := by rw [hpl] at hq; simp at hq; omega
   have hx : (blkT l (B + i))[j]? = some (blkT l (B + i))[j] := List.getElem?_eq_getElem hjl
   have hxl : l[8 * (B + i) + j]? = some (blkT l (B + i))[j] := by rw [← blkT_get (by omega)]; exact hx
   generalize (blkT l (B + i))[j] = p at hx hxl
   refine vp.idx hx fun a6 ha6 hc6 => ?_
   obtain ⟨c0, c1, c2⟩ := hc6.pair
   rw [Int.toNat_natCast]
   refine LoadS.mk c0 (LoadS.mk c1 (LoadB.mk c2 ?_))
   refine New.pair fun b' h8' hbe hb8 x8 hs8 => ?_
   have md8 : Mod O h h8' := md4.trans x8.mod
   have sz4 := md4.size
   have hJ8 := hB.stable _ _ _ _ _ hj4 (x8.weak (S' := fun b => ¬ O2 b ∧ h.size ≤ b) fun _ _ h => h.elim)
   have hch8 : h8'[c]? = some (.cells #[.string key] T2 (0, 0)) := md8.blk hch (hd c (.inr (.inr rfl)))
   refine Join.mk fun K2 hK2 => ?_
   refine LoadS.mk (hget_lit hb8 rfl) (atI (LoadS.mk (hget_lit hch8 rfl) ?_))
   have hxlen := (List.getElem?_eq_some_iff.1 hxl).1
   have hiff := at_iff (key := key) S.inc hxl
   refine PIf.intro (fun hlt => ?_) (fun hlt => ?_)
   ·have hge : atK key l ≤ 8 * (B + i) + j := by
     apply Nat.le_of_not_lt
     intro hh
     rw [hiff.1 hh] at hlt; cases hlt
    refine LoadS.mk (hget_lit hb8 rfl) (LoadS.mk (hget_lit1 hb8 rfl) (LoadB.mk (hget_lit1 hb8 rfl) ?_))
    have hget : (l.drop (atK key l))[8 * (B + i) + j - atK key l]? = some p := by
     rw [List.getElem?_drop, show atK key l + (8 * (B + i) + j - atK key l) = 8 * (B + i) + j by omega]; exact hxl
    refine CallV.mono (hY _ p O2 h8' hget hJ8) ?_
    rintro _ h10 ⟨g, O3, rfl, hsub3, m10, hj10⟩
    have sz8 := md8.size
    have hsubO3 : ∀ b, O3 b → O b ∨ h.size ≤ b := fun b hb => (hsub3 b hb).elim (hsub2 b) fun h1 => .inr (by omega)
    have md10 : Mod O h h10 := md8.then (m10.weak fun b _ hb => hsub2 b hb)
    refine ⟨g, rfl, hK2 _ _ ?_⟩
    dsimp only
    cases g with
    | false => exact PIf.yes rfl ⟨rfl, _, false, O3, md10, hsubO3, hj10, (fun h => by cases h), by rw [hdl]; omega⟩
    | true =>
     refine PIf.no rfl ?_
     rw [wrap_succ (by omega)]
     refine hK1 ((blkT l (B + i)).length - (j + 1)) _ _ (by omega) ⟨j + 1, O3, rfl, rfl, hjl, md10, hsubO3, fun d hd' => ⟨fun h => ?_, by have := hpb d hd'; have := x8.size; have := m10.size; omega⟩, ?_, ?_⟩
     ·rcases hsub3 d h with h | h
      ·exact (hpb d hd').1 h
      ·have := (hpb d hd').2; have := x8.size; omega
     ·exact (vp.ext x8).mod m10 fun d hd' => (hpb d hd').1
     ·rw [show 8 * (B + i) + (j + 1) - atK key l = 8 * (B + i) + j - atK key l + 1 by omega]; exact hj10
   ·have hlt' : sLt p.key key = true := by simpa using hlt
    have hge := hiff.2 hlt'
    refine hK2 _ _ (PIf.no rfl ?_)
    rw [wrap_succ (by omega)]
    refine hK1 ((blkT l (B + i)).length - (j + 1)) _ _ (by omega) ⟨j + 1, O2, rfl, rfl, hjl, md8, hsub2, fun d hd' => ⟨(hpb d hd').1, by have := (hpb d hd').2; have := x8.size; omega⟩, vp.ext x8, ?_⟩
    rw [show 8 * (B + i) + (j + 1) - atK key l = 8 * (B + i) + j - atK key l by omega]; exact hJ8
  ·have hjl : j = (blkT l (B + i)).length := by rw [hpl] at hq; simp at hq; omega
   rw [wrap_succ (by omega)]
   refine hK (nblk l - B - (i + 1)) _ _ (by omega) ⟨i + 1, O2, rfl, rfl, by omega, md4, hsub2, ?_⟩
   have hend : min (8 * (B + (i + 1))) l.length = 8 * (B + i) + j := by
    rw [hjl]
    unfold blkT
    rw [List.length_take, List.length_drop]
    omega
   rw [hend]; exact hj4
 ·have hil : i = nblk l - B := by simp at hq; omega
  have hend : min (8 * (B + i)) l.length = l.length := by rw [hil, show B + (nblk l - B) = nblk l by omega]; unfold nblk; omega
  rw [hend] at hjj
  exact ⟨rfl, l.length - atK key l, true, O1, md, hsub, hjj, fun _ => hdl.symm, by rw [hdl]; omega⟩
theorem TFrom_ok {A : Amb} {h : Heap} {t lo hi : Nat} {l : List Pr} {f : List UInt8} {key : ByteArray} {R : Value → Heap → Prop} (T : TabAt h t l f lo hi) (hhi : hi ≤ h.size) (S : TabS (wraps (framesT l f)) l f)
  (H : ∀ fv h', IterV A P fv (fun d => (lo ≤ d ∧ d < hi) ∨ d = h.size ∨ d = h.size + 1) h' (l.drop (atK key l)) → Ext h h' → h'.size = h.size + 2 → R fv h') : HCalls A P f_table_Table_From #[ptrV t, .string key] h R := by
 refine ok_table_Table_From ?_
 unfold F_table_Table_From
 refine New.mk fun h1 _ hb1 x1 hs1 => New.mk fun h2 _ hb2 x2 hs2 => ?_
 have x02 : Ext h h2 := x1.trans x2
 have hh := TFrom1_ok (A := A) (ext_cells x2 hb1) hb2 (T.ext x02) (by have := x02.size; omega) S (key := key)
 refine H _ h2 (hh.weak ?_ ?_ (fun c _ => rfl)) x02 (by omega)
 ·rintro d (hd | rfl | rfl)
  ·exact .inl hd
  ·exact .inr (.inl rfl)
  ·exact .inr (.inr hs1)
 ·rintro d (hd | rfl | rfl)
  ·have := x02.size; omega
  ·omega
  ·omega
end Go.Lf.G

/-
 Contracts: a log opened; added to, synced, rotated, dropped (chapter 4).
-/
set_option maxRecDepth 100000
set_option linter.unusedVariables false
set_option linter.unusedSimpArgs false
namespace Go.Lf.G
open Go
/-! ### what lies in files -/
def rdF (l : List Fi) (k : ByteArray) : Nat := match findF k l with | none => 0 | some f => f.firm.size + f.soft.size
theorem find_cons {k : ByteArray} {f : Fi} {l : List Fi} : findF k (f :: l) = if f.name = k then some f else findF k l := by rw [findF_cons]
theorem rd_del (k : ByteArray) : ∀ l : List Fi, rdF l k + wtF (delF k l) ≤ wtF l
 | [] => by simp [rdF, findF, delF, wtF]
 | f :: l => by
  have ih := rd_del k l
  have hw : wtF (f :: l) = f.firm.size + f.soft.size + 1 + wtF l := by simp [wtF]
  by_cases h : f.name = k
  ·have h1 : rdF (f :: l) k = f.firm.size + f.soft.size := by unfold rdF; rw [find_cons, if_pos h]
   have h2 : delF k (f :: l) = delF k l := by simp [delF, h]
   rw [h1, h2, hw]; omega
  ·have h1 : rdF (f :: l) k = rdF l k := by unfold rdF; rw [find_cons, if_neg h]
   have h2 : delF k (f :: l) = f :: delF k l := by simp [delF, h]
   have h3 : wtF (f :: delF k l) = f.firm.size + f.soft.size + 1 + wtF (delF k l) := by simp [wtF]
   rw [h1, h2, h3, hw]; omega
theorem rd_sum : ∀ (ks : List ByteArray), ks.Nodup → ∀ l : List Fi, (ks.map (rdF l)).sum ≤ wtF l
 | [], _, l => by simp
 | k :: ks, hnd, l => by
  rw [List.nodup_cons] at hnd
  have ih := rd_sum ks hnd.2 (delF k l)
  have e : ks.map (rdF (delF k l)) = ks.map (rdF l) := List.map_congr_left fun x hx => by
   unfold rdF
   rw [findF_del, if_neg (fun h => by subst h; exact hnd.1 hx)]
  rw [e] at ih
  have := rd_del k l
  simp only [List.map_cons, List.sum_cons]
  omega
def rdB (m : Bx) (nm : ByteArray) (n : Nat) : ByteArray := (readB m (fnB nm n)).1
noncomputable def recsB (nm : ByteArray) (m : Bx) (l : List Nat) : List ByteArray := l.flatMap fun n => (scanL (bl (rdB m nm n))).map strL
theorem rd_size {m : Bx} (hd : m.down = false) (k : ByteArray) : (readB m k).1.size = rdF m.files k := by
 unfold readB rdF
 rw [if_neg (by simp [hd])]
 cases findF k m.files with
 | none => rfl
 | some f => simp [ByteArray.size_append]
theorem recs_len {nm : ByteArray} {m : Bx} (hd : m.down = false) {l : List Nat} (hl : l.Pairwise (· < ·)) : (recsB nm m l).length ≤ wtF m.files := by
 have h1 : (recsB nm m l).length ≤ ((l.map (fnB nm)).map (rdF m.files)).sum := by
  unfold recsB
  clear hl
  induction l with
  | nil => simp
  | cons n l ih =>
   have h2 := scan_length (scanL_is (bl (rdB m nm n)))
   rw [bl_size, rdB, rd_size hd] at h2
   simp only [List.flatMap_cons, List.length_append, List.length_map, List.map_cons, List.sum_cons] at ih ⊢
   unfold rdB at ih ⊢
   omega
 refine Nat.le_trans h1 (rd_sum _ ?_ _)
 refine List.pairwise_map.2 (hl.imp fun {a c} h e => ?_)
 have := fnB_inj e
 omega
/-! ### Open -/
theorem Open_ok {A : Amb} {h : Heap} {b : Nat} {S : Nat → Prop} {m : Bx} {nm : ByteArray} {R : Value → Heap → Prop} (E : Evn h) (B : IsBox h b S m) (hd : m.down = false) (h0 : 0 < nm.size) (h8 : nm.size ≤ 8) (hw : wtF m.files ≤ 8000000000000)
  (H0 : ∀ h' l, SegL nm m l → l.getLast?.getD 0 = 99999999 → Ext h h' → R (.tuple #[.pointer none, .slice none 0 0, .int .i64 2]) h')
  (H1 : ∀ h' l lg sl, SegL nm m l → l.getLast?.getD 0 ≠ 99999999 → Ext h h' → h.size ≤ lg → h'[lg]? = some (.cells #[ptrV b, .string nm, .int .i64 ((l.getLast?.getD 0 + 1 : Nat) : Int), .bool false] t_wal_Log (0, 0)) → View StrE h' sl (recsB nm m l) →
   (∀ c, sl.blk = some c → h.size ≤ c ∧ c ≠ lg) → R (.tuple #[ptrV lg, .slice sl.p sl.len sl.cap, .int .i64 0]) h') : HCalls A P f_wal_Open #[ptrV b, .string nm] h R := by
 refine ok_wal_Open ?_
 unfold F_wal_Open
 refine PIf.no rfl (Join.mk fun K hK => ?_)
 have hne : sEq nm (⟨#[]⟩ : ByteArray) = false := by
  rw [sEq_iff, decide_eq_false_iff_not]
  rintro rfl
  have : (⟨#[]⟩ : ByteArray).size = 0 := rfl
  omega
 rw [hne]
 refine PIf.no rfl (hK _ _ (PIf.no (by simp; omega) ?_))
 refine segments_ok E B hd (by omega) hw fun h2 s2 l SL v2 x2 _ => ⟨s2, _, rfl, PIf.no rfl ?_⟩
 have hsz0 : l.length ≤ 99999999 := by
  have h1 : ∀ (l : List Nat) (k : Nat), l.Pairwise (· < ·) → (∀ n ∈ l, k < n ∧ n ≤ 99999999) → l.length + k ≤ 99999999 ∨ l = [] := by
   intro l
   induction l with
   | nil => intro k _ _; exact .inr rfl
   | cons a l ih =>
    intro k hp hr
    rw [List.pairwise_cons] at hp
    have ha := hr a (by simp)
    rcases ih a hp.2 (fun n hn => ⟨hp.1 n hn, (hr n (List.mem_cons_of_mem _ hn)).2⟩) with h | h
    ·left; simp only [List.length_cons]; omega
    ·subst h; left; simp; omega
  rcases h1 l 0 SL.inc (fun n hn => by have := (SL.mem n).1 hn; omega) with h | h
  ·omega
  ·subst h; simp
 refine Loop.rule (fun mm x hh => ∃ (i : Nat) (sl : Sl), x = (sl, (((l.take i).getLast?.getD 0 : Nat) : Int), (i : Int), ()) ∧ Ext h2 hh ∧ Own StrE t_string hh sl (recsB nm m (l.take i)) ∧ (∀ c, sl.blk = some c → h2.size ≤ c) ∧ i ≤ l.length ∧ mm = l.length - i) ?_
  ⟨0, ⟨none, 0, 0⟩, rfl, Mod.refl, Own.nil, fun c hc => by simp [Sl.blk] at hc, Nat.zero_le _, rfl⟩
 rintro K1 mm _ hh ⟨i, sl, rfl, xh, o, f, hi, rfl⟩ hK1
 have hlen : (l.map fun n : Nat => (n : Int)).length = l.length := List.length_map ..
 rw [v2.len, hlen]
 refine PIf.intro (fun hq => ?_) (fun hq => ?_)
 ·have hil : i < l.length := by simpa using hq
  have hget : l[i]? = some l[i] := List.getElem?_eq_getElem hil
  have hmem : l[i] ∈ l := List.getElem_mem hil
  obtain ⟨n1, n9, hfn⟩ := (SL.mem l[i]).1 hmem
  have htk : l.take (i + 1) = l.take i ++ [l[i]] := by rw [List.take_add_one, hget]; rfl
  have hlast : (l.take (i + 1)).getLast?.getD 0 = l[i] := by rw [htk, List.getLast?_concat]; rfl
  have hrec : recsB nm m (l.take (i + 1)) = recsB nm m (l.take i) ++ (scanL (bl (rdB m nm l[i]))).map strL := by
   rw [htk]; unfold recsB; rw [List.flatMap_append]; simp
  have hcnt := recs_len (nm := nm) (m := m) hd (l := l.take (i + 1)) (SL.inc.sublist (List.take_sublist _ _))
  rw [hrec, List.length_append, List.length_map] at hcnt
  rw [← hlen, ← v2.len]
  refine (v2.ext xh).idx (i := i) (x := (l[i] : Int)) (by rw [List.getElem?_map, hget]; rfl) fun a _ c => ?_
  refine LoadI.mk c.int ?_
  have x2h := x2.trans xh
  refine file_ok (E.ext x2h) (by omega) (by omega) fun h4 x4 => ⟨_, rfl, ?_⟩
  refine bRead_ok ((B.ext x2h).ext x4) ⟨_, _, rfl, ?_⟩
  have hr2 : (readB m (fnB nm l[i])).2 = 0 := by
   unfold readB
   rw [if_neg (by simp [hd])]
   cases hf : findF (fnB nm l[i]) m.files with
   | none => rw [hf] at hfn; cases hfn
   | some f => rfl
  rw [hr2]
  refine PIf.no rfl ?_
  have hsize : (readB m (fnB nm l[i])).1.size ≤ 8000000000000 := by
   rw [rd_size hd]
   have := rd_del (fnB nm l[i]) m.files
   omega
  refine fScan_ok hsize fun h6 s6 n6 x6 v6 => ⟨s6, _, rfl, ?_⟩
  refine append_own (E := StrE) app_str4 ((o.ext x4).ext x6) v6 (by rw [List.length_map]; unfold rdB at hcnt; omega) (by rw [List.length_map]; unfold rdB at hcnt; simp [maxLen]; omega) fun s' h7 o7 m7 b7 n7 => ?_
  dsimp only
  rw [wrap_succ (by omega)]
  refine hK1 (l.length - (i + 1)) _ _ (by omega) ⟨i + 1, s', ?_, ((xh.trans x4).trans x6).more m7 f, ?_, fun c hc => ?_, hil, rfl⟩
  ·rw [hlast]
  ·rw [hrec]; exact o7
  ·rcases b7 c hc with h | h
   ·exact f c h
   ·have := xh.size; have := x4.size; have := x6.size; omega
 ·have hil : i = l.length := by simp at hq; omega
  subst hil
  rw [List.take_length] at o ⊢
  refine PIf.intro (fun q => ?_) (fun q => ?_)
  ·have q : l.getLast?.getD 0 = 99999999 := by simp at q; omega
   exact H0 hh l SL q (x2.trans xh)
  ·have q : l.getLast?.getD 0 ≠ 99999999 := by simp at q; omega
   have hb : l.getLast?.getD 0 ≤ 99999999 := by
    cases hg : l.getLast? with
    | none => simp
    | some n =>
     have := (SL.mem n).1 (List.mem_of_getLast? hg)
     simp; omega
   refine New.mk fun h8 _ hb8 x8 hs8 => ?_
   dsimp only at hb8 ⊢
   rw [wrap_succ (by omega)] at hb8
   refine H1 h8 l hh.size sl SL q ((x2.trans xh).trans x8) (by have := x2.size; have := xh.size; omega) hb8 (o.ext x8).view fun c hc => by have := f c hc; have := x2.size; have := o.lt hc; omega
/-! ### a log's cell -/
def IsLog (h : Heap) (lg b : Nat) (nm : ByteArray) (seg : Nat) (made : Bool) : Prop := h[lg]? = some (.cells #[ptrV b, .string nm, .int .i64 (seg : Int), .bool made] t_wal_Log (0, 0))
theorem IsLog.mod {h h' : Heap} {lg b : Nat} {nm : ByteArray} {seg : Nat} {made : Bool} {S : Nat → Prop} (L : IsLog h lg b nm seg made) (x : Mod S h h') (hS : ¬ S lg) : IsLog h' lg b nm seg made := x.blk L hS
theorem IsLog.ext {h h' : Heap} {lg b : Nat} {nm : ByteArray} {seg : Nat} {made : Bool} (L : IsLog h lg b nm seg made) (x : Ext h h') : IsLog h' lg b nm seg made := x.blk L (fun h => h)
theorem lAppend_ok {A : Amb} {h : Heap} {lg b seg : Nat} {nm rec : ByteArray} {made : Bool} {S : Nat → Prop} {m : Bx} {R : Value → Heap → Prop} (E : Evn h) (L : IsLog h lg b nm seg made) (B : IsBox h b S m) (hS : ¬ S lg) (hE : ∀ h', Mod S h h' → Evn h') (hnm : nm.size ≤ 1099511627776) (hseg : seg ≤ 4294967295) (hr : rec.size ≤ 1048576) (hw : wtF m.files ≤ 8000000000000)
  (H : ∀ h' S', IsBox h' b S' (appendB m (fnB nm seg) (strL (wrapL (bl rec)))).2 → IsLog h' lg b nm seg (made || decide ((appendB m (fnB nm seg) (strL (wrapL (bl rec)))).1 = 0)) → Mod (fun c => S c ∨ c = lg) h h' → (∀ c, S' c → S c ∨ (h.size ≤ c ∧ c ≠ lg)) → R (.int .i64 (appendB m (fnB nm seg) (strL (wrapL (bl rec)))).1) h') :
  HCalls A P f_wal_Log_Append #[ptrV lg, .string rec] h R := by
 refine ok_wal_Log_Append ?_
 unfold F_wal_Log_Append
 refine PIf.no rfl ?_
 have hlt := blk_lt L
 have hlen : (bl rec).length ≤ 1048576 := by rw [bl_size]; exact hr
 have hwl := wrapL_len hlen
 rw [bl_size] at hwl
 have e0 : rec = strL (bl rec) := (strL_bl rec).symm
 have go : HCalls A P f_frame_Wrap #[.string rec] h fun v h1 => ∃ t12a : ByteArray, ∃ t12b : Int, v = .tuple #[.string t12a, .int .i64 t12b] ∧ (t12a = strL (wrapL (bl rec)) ∧ t12b = 0 ∧ Ext h h1) := by
  rw [e0]
  refine fWrap_ok (by rw [strL_bl] at *; omega) (fun h1 => by rw [strL_bl] at *; omega) fun _ h1 x1 => ⟨_, _, rfl, ?_, rfl, x1⟩
  rw [strL_bl]
 refine HCalls.mono go ?_
 rintro v h1 ⟨wa, wb, rfl, rfl, rfl, x1⟩
 refine ⟨_, _, rfl, PIf.no rfl ?_⟩
 have L1 := L.ext x1
 refine atI (LoadP.mk (hget_lit L1 rfl) (atI (LoadS.mk (hget_lit1 L1 rfl) (atI (LoadI.mk (hget_lit1 L1 rfl) ?_)))))
 refine file_ok (E.ext x1) hseg hnm fun h2 x2 => ⟨_, rfl, ?_⟩
 have x02 := x1.trans x2
 have L2 := L.ext x02
 refine ⟨hget_lit L2 rfl, ?_⟩
 refine bAppend_ok (B.ext x02) (by rw [strL_size]; omega) fun h3 S3 B3 m3 s3 => ⟨_, rfl, ?_⟩
 have L3 : IsLog h3 lg b nm seg made := L2.mod m3 hS
 have hx := x02.size
 have hs3 : ∀ c, S3 c → S c ∨ (h.size ≤ c ∧ c ≠ lg) := fun c hc => (s3 c hc).imp id fun h => ⟨by omega, by omega⟩
 have m03 : Mod (fun c => S c ∨ c = lg) h h3 := (Ext.mod x02).trans (m3.weak fun c _ hc => .inl hc)
 refine PIf.intro (fun q => ?_) (fun q => ?_)
 ·have q : (appendB m (fnB nm seg) (strL (wrapL (bl rec)))).1 ≠ 0 := by simpa using q
  exact H h3 S3 B3 (by rw [decide_eq_false q, Bool.or_false]; exact L3) m03 hs3
 ·have q : (appendB m (fnB nm seg) (strL (wrapL (bl rec)))).1 = 0 := by simpa using q
  refine atI (Store.mk1 L3 (by simp) fun h4 hb4 m4 hs4 => ?_)
  have nS3 : ¬ S3 lg := fun hc => by rcases s3 lg hc with h | h; exact hS h; omega
  have := H h4 S3 (B3.mod m4 fun c hc e => nS3 (e ▸ hc)) (by rw [decide_eq_true q, Bool.or_true]; simpa [IsLog] using hb4) (m03.then (m4.weak fun c _ hc => .inl (.inr hc))) hs3
  rw [q] at this
  exact this
def syncL (m : Bx) (k : ByteArray) (made : Bool) : Int × Bx := if made then syncB m k else (0, m)
theorem lSync_ok {A : Amb} {h : Heap} {lg b seg : Nat} {nm : ByteArray} {made : Bool} {S : Nat → Prop} {m : Bx} {R : Value → Heap → Prop} (E : Evn h) (L : IsLog h lg b nm seg made) (B : IsBox h b S m) (hS : ¬ S lg) (hnm : nm.size ≤ 1099511627776) (hseg : seg ≤ 4294967295)
  (H : ∀ h', IsBox h' b S (syncL m (fnB nm seg) made).2 → IsLog h' lg b nm seg made → Mod S h h' → R (.int .i64 (syncL m (fnB nm seg) made).1) h') :
  HCalls A P f_wal_Log_Sync #[ptrV lg] h R := by
 refine ok_wal_Log_Sync ?_
 unfold F_wal_Log_Sync
 refine PIf.no rfl (atI (LoadB.mk (hget_lit1 L rfl) ?_))
 cases made with
 | false => exact PIf.yes rfl (H h B L Mod.refl)
 | true =>
  refine PIf.no rfl (atI (LoadP.mk (hget_lit L rfl) (atI (LoadS.mk (hget_lit1 L rfl) (atI (LoadI.mk (hget_lit1 L rfl) ?_))))))
  refine file_ok E hseg hnm fun h1 x1 => ⟨_, rfl, ⟨hget_lit (L.ext x1) rfl, ?_⟩⟩
  refine bSync_ok (B.ext x1) fun h2 B2 m2 => ⟨_, rfl, ?_⟩
  exact H h2 B2 ((L.ext x1).mod m2 hS) ((Ext.mod x1).trans m2)
theorem lRotate_ok {A : Amb} {h : Heap} {lg b seg : Nat} {nm : ByteArray} {made : Bool} {S : Nat → Prop} {m : Bx} {R : Value → Heap → Prop} (E : Evn h) (L : IsLog h lg b nm seg made) (B : IsBox h b S m) (hS : ¬ S lg) (hnm : nm.size ≤ 1099511627776) (hseg : seg < 99999999)
  (H0 : (syncL m (fnB nm seg) made).1 ≠ 0 → ∀ h', IsBox h' b S (syncL m (fnB nm seg) made).2 → IsLog h' lg b nm seg made → Mod S h h' → R (.tuple #[.int .i64 0, .int .i64 (syncL m (fnB nm seg) made).1]) h')
  (H1 : (syncL m (fnB nm seg) made).1 = 0 → ∀ h', IsBox h' b S (syncL m (fnB nm seg) made).2 → IsLog h' lg b nm (seg + 1) false → Mod (fun c => S c ∨ c = lg) h h' → R (.tuple #[.int .i64 (seg : Int), .int .i64 0]) h') :
  HCalls A P f_wal_Log_Rotate #[ptrV lg] h R := by
 refine ok_wal_Log_Rotate ?_
 unfold F_wal_Log_Rotate
 refine PIf.no rfl (atI (LoadI.mk (hget_lit1 L rfl) (PIf.no (by simp; omega) ?_)))
 refine lSync_ok E L B hS hnm (by omega) fun h1 B1 L1 m1 => ⟨_, rfl, ?_⟩
 refine PIf.intro (fun q => ?_) (fun q => ?_)
 ·exact H0 (by simpa using q) h1 B1 L1 m1
 ·have q : (syncL m (fnB nm seg) made).1 = 0 := by simpa using q
  refine atI (LoadI.mk (hget_lit1 L1 rfl) ?_)
  rw [wrap_succ (by omega)]
  refine atI (Store.mk1 L1 (by simp) fun h2 hb2 m2 hs2 => ?_)
  refine atI (Store.mk1 hb2 (by simp) fun h3 hb3 m3 hs3 => ?_)
  have L3 : IsLog h3 lg b nm (seg + 1) false := by simpa [IsLog] using hb3
  refine atI (LoadI.mk (hget_lit1 L3 rfl) ?_)
  have e : IntKind.wrap .i64 (((seg + 1 : Nat) : Int) - 1) = (seg : Int) := by rw [wrap_i64 (by omega) (by omega)]; omega
  rw [e]
  have md := m2.trans m3
  exact H1 q h3 (B1.mod md fun c hc e => hS (e ▸ hc)) L3 ((m1.weak fun c _ hc => .inl hc).trans (md.weak fun c _ hc => .inr hc))
end Go.Lf.G

/-
 Contracts: the document's box behind a crash; lists of strings alike; a box that is awake.
-/
set_option maxRecDepth 100000
set_option linter.unusedVariables false
set_option linter.unusedSimpArgs false
namespace Go.Lf.G
open Go
end Go.Lf.G

/-
 The plain law of a box, file by file: firm and soft bytes.
-/
set_option maxRecDepth 100000
set_option linter.unusedVariables false
set_option linter.unusedSimpArgs false
namespace Go.Lf
open Go
/-- a file's firm and soft bytes -/
def ff (m : Bx) (k : ByteArray) : Option (ByteArray × ByteArray) := (findF k m.files).map fun f => (f.firm, f.soft)
theorem ff_some {m : Bx} {k : ByteArray} : (findF k m.files).isSome = (ff m k).isSome := by unfold ff; cases findF k m.files <;> rfl
theorem ff_read {m : Bx} (hd : m.down = false) (k : ByteArray) : readB m k = match ff m k with | none => (bs0, 31) | some p => (p.1 ++ p.2, 0) := by
 unfold readB ff
 rw [if_neg (by simp [hd])]
 cases findF k m.files <;> rfl
theorem ff_tick (m : Bx) (l : List Fi) (k : ByteArray) : ff { tickB m with files := l } k = (findF k l).map fun f => (f.firm, f.soft) := rfl
theorem find_haveF {k x : ByteArray} (l : List Fi) : findF x (haveF k l) = if x = k then some ((findF k l).getD ⟨k, bs0, bs0⟩) else findF x l := by
 unfold haveF
 cases hf : findF k l with
 | some f =>
  simp only [Option.isSome_some, if_true]
  by_cases hx : x = k
  ·subst hx; simp [hf]
  ·rw [if_neg hx]
 | none =>
  rw [if_neg (by simp), findF_ins (fun y hy => findF_none hf y hy)]
  by_cases hx : x = k
  ·subst hx; simp
  ·rw [if_neg hx, if_neg (fun h => hx h.symm)]
/-- a box that goes on: not down, fuel left -/
def Goes (m : Bx) : Prop := m.down = false ∧ m.fuel ≠ 0
theorem ff_append {m : Bx} (g : Goes m) {k d : ByteArray} (hk : badName k = false) : (appendB m k d).1 = 0 ∧ ∀ x, ff (appendB m k d).2 x = if x = k then some (((ff m k).getD (bs0, bs0)).1, ((ff m k).getD (bs0, bs0)).2 ++ d) else ff m x := by
 unfold appendB
 rw [if_neg (by simp [g.1]), if_neg (by simp [hk]), if_neg g.2]
 refine ⟨rfl, fun x => ?_⟩
 rw [ff_tick, findF_upd (g := addF d) (fun _ => rfl), find_haveF]
 unfold ff
 by_cases hx : x = k
 ·subst hx
  rw [if_pos rfl, if_pos rfl]
  cases hf : findF x m.files with
  | none => simp [addF]
  | some f =>
   have := (findF_some hf).1
   simp [addF, this]
 ·rw [if_neg hx, if_neg hx]
  cases hf : findF x m.files with
  | none => rfl
  | some f =>
   have := (findF_some hf).1
   simp only [Option.map_some]
   rw [if_neg (by rw [this]; exact hx)]
theorem ff_sync {m : Bx} (g : Goes m) {k : ByteArray} {p : ByteArray × ByteArray} (hk : ff m k = some p) : (syncB m k).1 = 0 ∧ ∀ x, ff (syncB m k).2 x = if x = k then some (p.1 ++ p.2, bs0) else ff m x := by
 have hf : ∃ f, findF k m.files = some f ∧ (f.firm, f.soft) = p := by
  unfold ff at hk
  cases hf : findF k m.files with
  | none => rw [hf] at hk; cases hk
  | some f => rw [hf] at hk; exact ⟨f, rfl, Option.some.inj hk⟩
 obtain ⟨f, hf, rfl⟩ := hf
 unfold syncB
 rw [if_neg (by simp [g.1]), if_neg (by simp [hf]), if_neg g.2]
 refine ⟨rfl, fun x => ?_⟩
 rw [ff_tick, findF_upd (g := firmF) (fun _ => rfl)]
 by_cases hx : x = k
 ·subst hx
  have := (findF_some hf).1
  rw [if_pos rfl, hf]
  simp [firmF, this]
 ·rw [if_neg hx]
  unfold ff
  cases hf2 : findF x m.files with
  | none => rfl
  | some f2 =>
   have := (findF_some hf2).1
   simp only [Option.map_some]
   rw [if_neg (by rw [this]; exact hx)]
theorem ff_delete {m : Bx} (g : Goes m) {k : ByteArray} (hk : (ff m k).isSome = true) : (deleteB m k).1 = 0 ∧ ∀ x, ff (deleteB m k).2 x = if x = k then none else ff m x := by
 have hf : (findF k m.files).isNone = false := by
  rw [← ff_some] at hk
  cases hf : findF k m.files with
  | none => rw [hf] at hk; cases hk
  | some f => rfl
 unfold deleteB
 rw [if_neg (by simp [g.1]), if_neg (by simp [hf]), if_neg g.2]
 refine ⟨rfl, fun x => ?_⟩
 rw [ff_tick, findF_del]
 split <;> rfl
theorem tick_goes {m : Bx} (l : List Fi) : ({ tickB m with files := l } : Bx).down = m.down := by
 show (tickB m).down = m.down
 unfold tickB; split <;> rfl
/-- calm: not down, no end of fuel -/
def Calm (m : Bx) : Prop := m.down = false ∧ m.fuel = -1
theorem Calm.goes {m : Bx} (c : Calm m) : Goes m := ⟨c.1, by rw [c.2]; decide⟩
theorem calm_tick {m : Bx} (c : Calm m) : tickB m = m := by unfold tickB; rw [if_neg (by rw [c.2]; decide)]
theorem calm_append {m : Bx} (c : Calm m) (k d : ByteArray) : Calm (appendB m k d).2 := by
 unfold appendB
 rw [if_neg (by simp [c.1])]
 split
 ·exact c
 ·rw [if_neg (by rw [c.2]; decide), calm_tick c]; exact ⟨c.1, c.2⟩
theorem calm_sync {m : Bx} (c : Calm m) (k : ByteArray) : Calm (syncB m k).2 := by
 unfold syncB
 rw [if_neg (by simp [c.1])]
 split
 ·exact c
 ·rw [if_neg (by rw [c.2]; decide), calm_tick c]; exact ⟨c.1, c.2⟩
/-! ### a crash -/
theorem find_crash_none {ks : List Int} : ∀ {l : List Fi} {k : Nat} {x : ByteArray}, findF x l = none → findF x (crashF ks k l) = none := by
 intro l k x h
 refine findF_none' fun f hf e => ?_
 obtain ⟨f', h1, h2⟩ := mem_crashF hf
 exact findF_none h f' h1 (h2.trans e)
/-! ### lists of numbers in order -/
theorem inc_ext : ∀ {l l' : List Nat}, l.Pairwise (· < ·) → l'.Pairwise (· < ·) → (∀ n, n ∈ l ↔ n ∈ l') → l = l'
 | [], [], _, _, _ => rfl
 | [], b :: l', _, _, h => by have := (h b).2 (by simp); cases this
 | a :: l, [], _, _, h => by have := (h a).1 (by simp); cases this
 | a :: l, b :: l', h1, h2, h => by
  rw [List.pairwise_cons] at h1 h2
  have hab : a = b := by
   rcases List.mem_cons.1 ((h a).1 (by simp)) with e | e
   ·exact e
   ·rcases List.mem_cons.1 ((h b).2 (by simp)) with e2 | e2
    ·exact e2.symm
    ·have := h2.1 a e; have := h1.1 b e2; omega
  subst hab
  have : l = l' := inc_ext h1.2 h2.2 fun n => by
   constructor
   ·intro hn
    rcases List.mem_cons.1 ((h n).1 (List.mem_cons_of_mem _ hn)) with e | e
    ·have := h1.1 n hn; omega
    ·exact e
   ·intro hn
    rcases List.mem_cons.1 ((h n).2 (List.mem_cons_of_mem _ hn)) with e | e
    ·have := h2.1 n hn; omega
    ·exact e
  rw [this]
end Go.Lf

/-
 Contracts: a log's segments dropped; what a log holds; a log that is awake (chapter 4).
-/
set_option maxRecDepth 100000
set_option linter.unusedVariables false
set_option linter.unusedSimpArgs false
namespace Go.Lf.G
open Go
theorem recs_eq {nm : ByteArray} {m : Bx} {l : List Nat} {R : Nat → List ByteArray} (hd : m.down = false) (h : ∀ n ∈ l, ∃ p, ff m (fnB nm n) = some p ∧ Scan (bl (p.1 ++ p.2)) ((R n).map bl)) : recsB nm m l = l.flatMap R := by
 unfold recsB
 induction l with
 | nil => rfl
 | cons n l ih =>
  obtain ⟨p, h1, h2⟩ := h n (by simp)
  rw [List.flatMap_cons, List.flatMap_cons, ih fun k hk => h k (List.mem_cons_of_mem _ hk)]
  congr 1
  have e : rdB m nm n = p.1 ++ p.2 := by unfold rdB; rw [ff_read hd, h1]
  rw [e, scanL_of h2, List.map_map]
  conv => rhs; rw [← List.map_id (R n)]
  exact List.map_congr_left fun x _ => strL_bl x
theorem fn_good {nm : ByteArray} {n : Nat} (h8 : nm.size ≤ 8) (hn : n ≤ 99999999) : badName (fnB nm n) = false := by
 have h1 := fnB_size (nm := nm) hn
 unfold badName
 rw [Bool.or_eq_false_iff, decide_eq_false_iff_not, decide_eq_false_iff_not]
 refine ⟨fun h => ?_, by omega⟩
 rw [h] at h1
 have : bs0.size = 0 := rfl
 omega
theorem segl_len {nm : ByteArray} {m : Bx} {l : List Nat} (SL : SegL nm m l) : l.length ≤ 99999999 := by
 have h1 : ∀ (l : List Nat) (k : Nat), l.Pairwise (· < ·) → (∀ n ∈ l, k < n ∧ n ≤ 99999999) → l.length + k ≤ 99999999 ∨ l = [] := by
  intro l
  induction l with
  | nil => intro k _ _; exact .inr rfl
  | cons a l ih =>
   intro k hp hr
   rw [List.pairwise_cons] at hp
   have ha := hr a (by simp)
   rcases ih a hp.2 (fun n hn => ⟨hp.1 n hn, (hr n (List.mem_cons_of_mem _ hn)).2⟩) with h | h
   ·left; simp only [List.length_cons]; omega
   ·subst h; left; simp; omega
 rcases h1 l 0 SL.inc (fun n hn => by have := (SL.mem n).1 hn; omega) with h | h
 ·omega
 ·subst h; simp
end Go.Lf.G

