/-
  Contracts: owners, shards, names (chapter 11); the statements RingFew, RingRound, RingOrder, RingOwners over the formulas.
-/
import Derived.Test.YtpgiajfbponigaaDoorLfW1
import Derived.Lib.ItoaLen
import Derived.Lib.AppendIntMem
import Derived.Test.YtpgiajfbponigaaDoorRows
set_option maxRecDepth 100000
set_option linter.unusedVariables false
set_option linter.unusedSimpArgs false
namespace Go.Lf.G
open Go

abbrev ptrV (b : Nat) : Value := .pointer (some ⟨b, 0, none⟩)
theorem LoadC.mk {k : FloatKind} {h : Heap} {a : Addr} {K : Nat × Nat → Prop} {n : Nat × Nat} (hv : hget h a = some (.complex k n.1 n.2)) (H : K n) : LoadC k h a K := ⟨n, hv, H⟩

theorem isNaN_int {A : Amb} {h : Heap} {x : Int} {R : Value → Heap → Prop} (H : R (.bool false) h) : HCalls A P f_cmp_isNaN_of_int #[.int .i64 x] h R := by
  refine ok_cmp_isNaN_of_int ?_
  unfold F_cmp_isNaN_of_int
  have : (x != x) = false := by simp
  rw [this]; exact H
theorem isNaN_str {A : Amb} {h : Heap} {x : ByteArray} {R : Value → Heap → Prop} (H : R (.bool false) h) : HCalls A P f_cmp_isNaN_of_string #[.string x] h R := by
  refine ok_cmp_isNaN_of_string ?_
  unfold F_cmp_isNaN_of_string
  have : (!sEq x x) = false := by rw [sEq_iff]; simp
  rw [this]; exact H
def cmpI (x y : Int) : Int := if x < y then -1 else if y < x then 1 else 0
def cmpS (x y : ByteArray) : Int := if sLt x y then -1 else if x = y then 0 else 1
theorem CompareI_ok {A : Amb} {h : Heap} {x y : Int} {R : Value → Heap → Prop} (H : R (.int .i64 (cmpI x y)) h) : HCalls A P f_cmp_Compare_of_int #[.int .i64 x, .int .i64 y] h R := by
  refine ok_cmp_Compare_of_int ?_
  unfold F_cmp_Compare_of_int
  unfold cmpI at H
  refine isNaN_int ⟨_, rfl, isNaN_int ⟨_, rfl, PIf.no rfl (PIf.no rfl ?_)⟩⟩
  refine PIf.intro (fun hq => ?_) (fun hq => ?_)
  · rw [if_pos (of_decide_eq_true hq)] at H; exact H
  · rw [if_neg (of_decide_eq_false hq)] at H
    refine PIf.intro (fun hq => ?_) (fun hq => ?_)
    · have : y < x := of_decide_eq_true hq
      rw [if_pos this] at H; exact H
    · have : ¬ y < x := of_decide_eq_false hq
      rw [if_neg this] at H; exact H
theorem CompareS_ok {A : Amb} {h : Heap} {x y : ByteArray} {R : Value → Heap → Prop} (H : R (.int .i64 (cmpS x y)) h) : HCalls A P f_cmp_Compare_of_string #[.string x, .string y] h R := by
  refine ok_cmp_Compare_of_string ?_
  unfold F_cmp_Compare_of_string
  unfold cmpS at H
  refine isNaN_str ⟨_, rfl, isNaN_str ⟨_, rfl, PIf.no rfl (PIf.no rfl ?_)⟩⟩
  refine PIf.intro (fun hq => ?_) (fun hq => ?_)
  · rw [if_pos hq] at H; exact H
  · rw [if_neg (by simp [hq])] at H
    rw [hq, Bool.false_or, sEq_iff]
    refine PIf.intro (fun hq => ?_) (fun hq => ?_)
    · rw [if_neg (by simpa using hq)] at H; exact H
    · rw [if_pos (by simpa using hq)] at H; exact H
theorem Or_ok {A : Amb} {h : Heap} {s : Sl} {c d : Int} {R : Value → Heap → Prop} (v : View IntE h s [c, d]) (H : R (.int .i64 (if c ≠ 0 then c else d)) h) : HCalls A P f_cmp_Or_of_int #[.slice s.p s.len s.cap] h R := by
  refine ok_cmp_Or_of_int ?_
  unfold F_cmp_Or_of_int
  have hl : s.len = 2 := v.len
  refine Loop.rule (fun m x hh => ∃ i : Nat, x = ((i : Int), ()) ∧ hh = h ∧ m = 2 - i ∧ (i = 0 ∨ (i = 1 ∧ c = 0) ∨ (i = 2 ∧ c = 0 ∧ d = 0))) ?_ ⟨0, rfl, rfl, rfl, .inl rfl⟩
  rintro K m _ hh ⟨i, rfl, e, rfl, hi⟩ hK
  subst e
  rcases hi with rfl | ⟨rfl, hc⟩ | ⟨rfl, hc, hd⟩
  · refine PIf.yes (by rw [hl]; rfl) (v.idx (i := 0) (x := c) rfl fun a _ ca => LoadI.mk ca.int ?_)
    refine PIf.intro (fun hq => ?_) (fun hq => ?_)
    · rw [if_pos (by simpa using hq)] at H; exact H
    · exact hK 1 _ _ (by omega) ⟨1, rfl, rfl, rfl, .inr (.inl ⟨rfl, by simpa using hq⟩)⟩
  · rw [if_neg (by simpa using hc)] at H
    refine PIf.yes (by rw [hl]; rfl) (v.idx (i := 1) (x := d) rfl fun a _ ca => LoadI.mk ca.int ?_)
    refine PIf.intro (fun hq => ?_) (fun hq => ?_)
    · exact H
    · exact hK 0 _ _ (by omega) ⟨2, rfl, rfl, rfl, .inr (.inr ⟨rfl, hc, by simpa using hq⟩)⟩
  · rw [if_neg (by simpa using hc), hd] at H
    exact PIf.no (by rw [hl]; rfl) H

theorem cmp_sign (key a b : ByteArray) : decide ((if cmpI (distN key a : Int) (distN key b : Int) ≠ 0 then cmpI (distN key a : Int) (distN key b : Int) else cmpS a b) < 0) = ltH key a b := by
  unfold ltH cmpI cmpS
  by_cases h1 : distN key a < distN key b
  · simp [h1]
  · by_cases h2 : distN key b < distN key a
    · have h3 : ¬ distN key a = distN key b := by omega
      simp [h1, h2, h3]
    · have h3 : distN key a = distN key b := by omega
      simp only [h3, Int.lt_irrefl, if_false, ne_eq, not_true_eq_false, Nat.lt_irrefl, decide_false, Bool.false_or, decide_true, Bool.true_and]
      cases h4 : sLt a b
      · by_cases h5 : a = b <;> simp [h5]
      · simp

theorem cmp_ok {A : Amb} {h : Heap} {b : Nat} {T : TypeId} {fr : Nat × Nat} {key x y : ByteArray} {p : Nat × Nat} {R : Value → Heap → Prop} (hb : h[b]? = some (.cells #[.complex .f64 p.1 p.2] T fr)) (hp : CP p (stepsN key)) (hx : x.size ≤ 1099511627776) (hy : y.size ≤ 1099511627776)
    (H : ∀ n h', decide (n < 0) = ltH key x y → Ext h h' → R (.int .i64 n) h') : HCalls A P f_ring_Owner_1 #[.string x, .string y, ptrV b] h R := by
  refine ok_ring_Owner_1 ?_
  unfold F_ring_Owner_1
  have g : hget h ⟨b, 0, none⟩ = some (.complex .f64 p.1 p.2) := hget_lit hb rfl
  refine atI (LoadC.mk g (Place_ok hx fun q1 c1 => ⟨q1, rfl, g, ?_⟩))
  refine Turn_ok hp c1 ⟨_, rfl, atI (LoadC.mk g ⟨g, g, Place_ok hy fun q2 c2 => ⟨q2, rfl, g, ?_⟩⟩)⟩
  refine Turn_ok hp c2 ⟨_, rfl, CompareI_ok ⟨_, rfl, CompareS_ok ⟨_, rfl, New.mk fun h1 _ hb1 x1 hs1 => ?_⟩⟩⟩
  have o1 := (Own.lit (E := IntE) (l := [cmpI (distN key x : Int) (distN key y : Int), cmpS x y]) hb1 rfl (by simp [maxLen])).view
  exact Or_ok (s := ⟨some ⟨h.size, 0, none⟩, 2, 2⟩) o1 ⟨_, rfl, H _ h1 (cmp_sign key x y) x1⟩

abbrev stepH (key : ByteArray) : ByteArray → ByteArray → ByteArray := fun m y => if ltH key y m then y else m
theorem MinFunc_ok {A : Amb} {h : Heap} {b : Nat} {T : TypeId} {fr : Nat × Nat} {s : Sl} {l : List ByteArray} {key : ByteArray} {p : Nat × Nat} {R : Value → Heap → Prop} (hb : h[b]? = some (.cells #[.complex .f64 p.1 p.2] T fr)) (hp : CP p (stepsN key)) (v : View StrE h s l) (hne : l ≠ [])
    (hl : ∀ x ∈ l, x.size ≤ 1099511627776) (hlen : l.length ≤ 1099511627776) (H : ∀ h', Ext h h' → R (.string (ownerN key l)) h') : HCalls A P f_slices_MinFunc_of___string_string #[.slice s.p s.len s.cap, .func (.func f_ring_Owner_1) #[] #[ptrV b]] h R := by
  refine ok_slices_MinFunc_of___string_string ?_
  unfold F_slices_MinFunc_of___string_string
  obtain ⟨y0, l', rfl⟩ : ∃ y l', l = y :: l' := by cases l with | nil => exact absurd rfl hne | cons y l' => exact ⟨y, l', rfl⟩
  refine Join.mk fun K hK => ?_
  have hlen' : l'.length + 1 ≤ 1099511627776 := hlen
  have hsl : s.len = l'.length + 1 := by have := v.len; simpa using this
  refine PIf.no (by rw [hsl, decide_eq_false_iff_not]; omega) (hK _ _ ?_)
  refine v.idx (i := 0) (x := y0) rfl fun a0 _ ca0 => LoadS.mk ca0.str ?_
  refine Loop.rule (fun m x hh => ∃ j : Nat, x = ((l'.take j).foldl (stepH key) y0, ((j + 1 : Nat) : Int), ()) ∧ m = l'.length - j ∧ j ≤ l'.length ∧ Ext h hh) ?_ ⟨0, rfl, rfl, by omega, Mod.refl⟩
  rintro K1 m _ hh ⟨j, rfl, rfl, hj, xh⟩ hK1
  have hmem : ∀ j, (l'.take j).foldl (stepH key) y0 ∈ y0 :: l' := fun j => by
    rcases (foldl_least key (l'.take j) y0).1 with e | e
    · have e' : (l'.take j).foldl (stepH key) y0 = y0 := e
      rw [e']; exact List.mem_cons_self
    · exact List.mem_cons_of_mem _ (List.mem_of_mem_take e)
  refine PIf.intro (fun hq => ?_) (fun hq => ?_)
  · have hjl : j < l'.length := by
      have h0 : ((j + 1 : Nat) : Int) < ((s.len : Nat) : Int) := of_decide_eq_true hq
      omega
    have hg : (y0 :: l')[j + 1]? = some l'[j] := by simp [hjl]
    generalize hy : l'[j] = y at hg
    have hym : y ∈ y0 :: l' := List.mem_of_getElem? hg
    refine Join.mk fun K2 hK2 => ?_
    have vh := v.ext xh
    refine vh.idx (i := j + 1) hg fun a1 _ ca1 => LoadS.mk ca1.str ?_
    have hbh := xh.blk hb (fun h => h)
    refine CallV.func (first := #[]) (caps := #[ptrV b]) (by kernel_rfl) ?_
    refine cmp_ok hbh hp (hl y hym) (hl _ (hmem j)) fun n h4 hn x4 => ⟨n, rfl, ?_⟩
    have x4' := xh.trans x4
    have next : (l'.take (j + 1)).foldl (stepH key) y0 = stepH key ((l'.take j).foldl (stepH key) y0) y := by
      rw [List.take_add_one, List.getElem?_eq_getElem hjl, hy]; simp [List.foldl_append]
    have fin : K2 ((l'.take (j + 1)).foldl (stepH key) y0, ()) h4 := hK2 _ _ (by
      refine hK1 (l'.length - (j + 1)) _ _ (by omega) ⟨j + 1, ?_, rfl, hjl, x4'⟩
      dsimp only
      rw [wrap_succ (by omega)])
    rw [next] at fin
    rw [hn]
    unfold stepH at fin
    refine PIf.intro (fun hq => ?_) (fun hq => ?_)
    · refine (v.ext x4').idx (i := j + 1) hg fun a2 _ ca2 => LoadS.mk ca2.str ?_
      rw [if_pos hq] at fin; exact fin
    · rw [if_neg (by simp [hq])] at fin; exact fin
  · have hjl : j = l'.length := by
      have h0 : ¬ ((j + 1 : Nat) : Int) < ((s.len : Nat) : Int) := of_decide_eq_false hq
      omega
    subst hjl
    rw [List.take_length]
    exact H hh xh

theorem Owner_ok {A : Amb} {h : Heap} {s : Sl} {l : List ByteArray} {key : ByteArray} {R : Value → Heap → Prop} (v : View StrE h s l) (hl : ∀ x ∈ l, x.size ≤ 1099511627776) (hlen : l.length ≤ 1099511627776) (hk : key.size ≤ 1099511627776)
    (H : ∀ h', Ext h h' → R (.string (ownerN key l)) h') : HCalls A P f_ring_Owner #[.slice s.p s.len s.cap, .string key] h R := by
  refine ok_ring_Owner ?_
  unfold F_ring_Owner
  refine PIf.intro (fun hq => ?_) (fun hq => ?_)
  · have : l = [] := by
      have h0 : ((s.len : Nat) : Int) = 0 := by simpa using hq
      exact List.eq_nil_of_length_eq_zero (by have := v.len; omega)
    subst this
    exact H h Mod.refl
  · have hne : l ≠ [] := by
      rintro rfl
      have h0 : s.len = 0 := v.len
      rw [h0] at hq; simp at hq
    refine Place_ok hk fun p cp => ⟨p, rfl, New.mk fun h1 _ hb1 x1 hs1 => ?_⟩
    refine Store.mk hb1 (by simp) fun h2 hb2 m2 hs2 => ?_
    have x2 : Ext h h2 := x1.then (m2.weak fun c _ hc => .inr (by omega))
    exact MinFunc_ok (p := p) (by simpa using hb2) cp (v.ext x2) hne hl hlen fun h3 x3 => ⟨_, rfl, H h3 (x2.trans x3)⟩

theorem rOwner_ok {A : Amb} {h : Heap} {s : Sl} {l : List ByteArray} {key : ByteArray} {R : Value → Heap → Prop} (v : View StrE h s l) (hl : ∀ x ∈ l, x.size ≤ 1099511627776) (hlen : l.length ≤ 1099511627776) (hk : key.size ≤ 1099511627776)
    (H : R (.string (ownerN key l)) h) : HCalls A P f_wherryref11_Owner #[.slice s.p s.len s.cap, .string key] h R := by
  refine ok_wherryref11_Owner ?_
  unfold F_wherryref11_Owner
  refine Loop.rule (fun m x hh => ∃ i : Nat, x = (ownerN key (l.take i), (if i = 0 then (4096 : Int) else (distN key (ownerN key (l.take i)) : Int)), (i : Int), ()) ∧ hh = h ∧ m = l.length - i ∧ i ≤ l.length) ?_ ⟨0, rfl, rfl, rfl, by omega⟩
  rintro K m _ hh ⟨i, rfl, e, rfl, hi⟩ hK
  subst e
  refine PIf.intro (fun hq => ?_) (fun hq => ?_)
  · have hil : i < l.length := by simpa [v.len] using hq
    have hg := List.getElem?_eq_getElem hil
    generalize l[i] = y at hg
    have hsn : l.take (i + 1) = l.take i ++ [y] := by rw [List.take_add_one, hg]; rfl
    refine Join.mk fun K1 hK1 => ?_
    refine v.idx hg fun a _ ca => LoadS.mk ca.str ?_
    refine Steps_ok (hl y (List.mem_of_getElem? hg)) ⟨_, rfl, Steps_ok hk ⟨_, rfl, ?_⟩⟩
    have s1 := stepsN_lt y
    have s2 := stepsN_lt key
    have e : (IntKind.wrap .i64 ((IntKind.wrap .i64 ((stepsN y : Int) - (stepsN key : Int))) + (4096 : Int))).tmod (4096 : Int) = ((distN key y : Nat) : Int) := by
      rw [wrap_i64 (n := (stepsN y : Int) - (stepsN key : Int)) (by omega) (by omega), wrap_i64 (by omega) (by omega), show (stepsN y : Int) - (stepsN key : Int) + 4096 = ((stepsN y + 4096 - stepsN key : Nat) : Int) by omega]
      exact (Int.ofNat_tmod _ 4096).symm
    rw [e]
    have hd : distN key y < 4096 := turnN_lt _ _
    have next : ∀ r, r = ownerN key (l.take (i + 1)) → K1 (r, (distN key r : Int), ()) hh := fun r hr => hK1 _ _ (by
      refine hK (l.length - (i + 1)) _ _ (by omega) ⟨i + 1, ?_, rfl, rfl, hil⟩
      dsimp only
      rw [wrap_succ (by omega), if_neg (by omega), hr])
    refine Join.mk fun K2 hK2 => ?_
    have yes : ownerN key (l.take (i + 1)) = y → K2 (true, ()) hh := fun ho => hK2 _ _ (PIf.yes rfl (v.idx hg fun a _ ca => LoadS.mk ca.str (next y ho.symm)))
    dsimp only
    by_cases h0 : i = 0
    · subst h0
      rw [if_pos rfl]
      refine PIf.yes (by rw [decide_eq_true_eq]; omega) (yes ?_)
      rw [hsn]; rfl
    · rw [if_neg h0]
      obtain ⟨z, l2, hz⟩ : ∃ z l2, l.take i = z :: l2 := by
        cases h : l.take i with
        | nil =>
          have := congrArg List.length h
          rw [List.length_take, List.length_nil] at this; omega
        | cons z l2 => exact ⟨z, l2, rfl⟩
      have hstep : ownerN key (l.take (i + 1)) = if ltH key y (ownerN key (l.take i)) then y else ownerN key (l.take i) := by
        rw [hsn, hz]
        show List.foldl (stepH key) z (l2 ++ [y]) = stepH key (List.foldl (stepH key) z l2) y
        rw [List.foldl_append]; rfl
      generalize ownerN key (l.take i) = m0 at *
      have no : ltH key y m0 = false → K2 (false, ()) hh := fun hn => hK2 _ _ (PIf.no rfl (by
        rw [hn] at hstep
        show K1 (m0, (if i = 0 then (4096 : Int) else (distN key m0 : Int)), ()) hh
        rw [if_neg h0]
        exact next m0 (by rw [hstep]; rfl)))
      have yes' : ltH key y m0 = true → K2 (true, ()) hh := fun hn => yes (by rw [hstep, if_pos hn])
      refine PIf.intro (fun hq => ?_) (fun hq => ?_)
      · have h1 : (distN key y : Int) < (distN key m0 : Int) := of_decide_eq_true hq
        exact yes' (by unfold ltH; rw [decide_eq_true (by omega), Bool.true_or])
      · have h1 : ¬ (distN key y : Int) < (distN key m0 : Int) := of_decide_eq_false hq
        refine PIf.intro (fun hq => ?_) (fun hq => ?_)
        · have h2 : (distN key y : Int) = (distN key m0 : Int) := by simpa using hq
          refine v.idx hg fun a _ ca => LoadS.mk ca.str ?_
          have e2 : ltH key y m0 = sLt y m0 := by
            unfold ltH
            rw [decide_eq_false (by omega), Bool.false_or, decide_eq_true (by omega), Bool.true_and]
          cases h3 : sLt y m0
          · exact no (by rw [e2, h3])
          · exact yes' (by rw [e2, h3])
        · have h2 : ¬ (distN key y : Int) = (distN key m0 : Int) := by simpa using hq
          refine no ?_
          unfold ltH
          rw [decide_eq_false (by omega), Bool.false_or, decide_eq_false (by omega), Bool.false_and]
  · have hil : i = l.length := by simp [v.len] at hq; omega
    dsimp only
    rw [List.take_of_length_le (by omega)]
    exact H

/-! ### shards, names -/
def shardN (k : ByteArray) (n : Int) : Int × Int := if n < 1 ∨ n > 16 then (0, 1) else (((hash1 k / 256 : Nat) : Int).tmod n, 0)
theorem Shard_ok {A : Amb} {h : Heap} {wid : ByteArray} {n : Int} {R : Value → Heap → Prop} (hk : wid.size ≤ 1099511627776) (H : R (.tuple #[.int .i64 (shardN wid n).1, .int .i64 (shardN wid n).2]) h) : HCalls A P f_ring_Shard #[.string wid, .int .i64 n] h R := by
  refine ok_ring_Shard ?_
  unfold F_ring_Shard
  unfold shardN at H
  refine Join.mk fun K hK => ?_
  have bad : (n < 1 ∨ n > 16) → K (true, ()) h := fun hb => hK _ _ (PIf.yes rfl (by rw [if_pos hb] at H; exact H))
  have good : ¬ (n < 1 ∨ n > 16) → K (false, ()) h := fun hb => hK _ _ (PIf.no rfl (by
    rw [if_neg hb] at H
    refine Hash_ok hk ⟨_, _, rfl, by omega, ?_⟩
    have g1 := hash1_lt wid
    have g3 : hash1 wid / 2 ^ 8 ≤ hash1 wid := Nat.div_le_self _ _
    rw [fdiv_nat, wrap_nat (by omega)]
    exact H))
  refine PIf.intro (fun hq => ?_) (fun hq => ?_)
  · exact bad (.inl (of_decide_eq_true hq))
  · have h1 : ¬ n < 1 := of_decide_eq_false hq
    cases hq2 : decide (n > (16 : Int))
    · exact good (by have : ¬ n > 16 := of_decide_eq_false hq2; omega)
    · exact bad (.inr (of_decide_eq_true hq2))
theorem rShard_ok {A : Amb} {h : Heap} {wid : ByteArray} {n : Int} {R : Value → Heap → Prop} (hk : wid.size ≤ 1099511627776) (H : R (.tuple #[.int .i64 (shardN wid n).1, .int .i64 (shardN wid n).2]) h) : HCalls A P f_wherryref11_Shard #[.string wid, .int .i64 n] h R := by
  refine ok_wherryref11_Shard ?_
  unfold F_wherryref11_Shard
  unfold shardN at H
  refine Join.mk fun K hK => ?_
  have bad : (n < 1 ∨ n > 16) → K (true, ()) h := fun hb => hK _ _ (PIf.yes rfl (by rw [if_pos hb] at H; exact H))
  have good : ¬ (n < 1 ∨ n > 16) → K (false, ()) h := fun hb => hK _ _ (PIf.no rfl (by
    rw [if_neg hb] at H
    refine rHash_ok hk ⟨_, _, rfl, by omega, ?_⟩
    have g1 := hash1_lt wid
    have g3 : hash1 wid / 256 ≤ hash1 wid := Nat.div_le_self _ _
    rw [show ((hash1 wid : Nat) : Int).tdiv (256 : Int) = ((hash1 wid / 256 : Nat) : Int) from (Int.ofNat_tdiv _ 256).symm, wrap_u32, Nat.mod_eq_of_lt (by omega), wrap_nat (by omega)]
    exact H))
  refine PIf.intro (fun hq => ?_) (fun hq => ?_)
  · exact bad (.inl (of_decide_eq_true hq))
  · have h1 : ¬ n < 1 := of_decide_eq_false hq
    cases hq2 : decide (n > (16 : Int))
    · exact good (by have : ¬ n > 16 := of_decide_eq_false hq2; omega)
    · exact bad (.inr (of_decide_eq_true hq2))

/-- the library's table of powers of ten lies where it lies -/
def tabName : String := Proofs.YtpgiajfbponigaaDoor.Rows.ringFewRow.named.headD (String.ofList [])
def Tab (h : Heap) : Prop := ∀ (A : Amb) (n : Nat), Lib.TabIs P (A.at h n) tabName .u64 Lib.pow10Tab
theorem Tab.ext {h h' : Heap} (t : Tab h) (x : Ext h h') : Tab h' := by
  intro A n
  have h1 := (Lib.tabBelow_of_tabIs (t A n)) (A.at h' n) ⟨rfl, rfl, rfl, x.size, fun k hk => x.get k hk (fun h => h)⟩
  exact h1
theorem Itoa_ok {A : Amb} {h : Heap} {n : Int} {R : Value → Heap → Prop} (t : Tab h) (h0 : -9223372036854775808 ≤ n) (h1 : n ≤ 9223372036854775807) (H : ∀ h', Ext h h' → R (.string ⟨(Lib.itoa n).toArray⟩) h') :
    HCalls A P f_strconv_Itoa #[.int .i64 n] h R := by
  intro m
  refine Calls.mono (Proofs.Any.strconv_Itoa Proofs.Tryd.laysM171 n h0 h1 (A.at h m) (t A m)) ?_
  rintro e w' ⟨rfl, k, os, rfl⟩
  refine ⟨_, rfl, h ++ os, m + k, rfl, H _ ⟨by simp, fun b hb _ => by rw [Array.getElem?_append_left hb]⟩⟩
theorem Name_ok {A : Amb} {h : Heap} {n : Int} {R : Value → Heap → Prop} (t : Tab h) (h1 : n ≤ 9223372036854775807) (H : ∀ h', Ext h h' → R (.string ((⟨#[115, 104, 97, 114, 100, 32]⟩ : ByteArray) ++ ⟨(Lib.itoa (if (0 : Int) > n then 0 else n)).toArray⟩)) h') :
    HCalls A P f_ring_Name #[.int .i64 n] h R := by
  refine ok_ring_Name ?_
  unfold F_ring_Name
  refine Itoa_ok t (by split <;> omega) (by split <;> omega) fun h' x => ⟨_, rfl, ?_, H h' x⟩
  have := Lib.itoa_length_le (if (0 : Int) > n then 0 else n) (by split <;> omega) (by split <;> omega)
  have e1 : ByteArray.size ⟨#[115, 104, 97, 114, 100, 32]⟩ = 6 := rfl
  have e2 : ByteArray.size ⟨(Lib.itoa (if (0 : Int) > n then 0 else n)).toArray⟩ = (Lib.itoa (if (0 : Int) > n then 0 else n)).length := by show Array.size _ = _; simp
  rw [e1, e2, max_i64]; omega
theorem rName_ok {A : Amb} {h : Heap} {n : Int} {R : Value → Heap → Prop} (t : Tab h) (h1 : n ≤ 9223372036854775807) (H : ∀ h', Ext h h' → R (.string ((⟨#[115, 104, 97, 114, 100, 32]⟩ : ByteArray) ++ ⟨(Lib.itoa (if (0 : Int) > n then 0 else n)).toArray⟩)) h') :
    HCalls A P f_wherryref11_Name #[.int .i64 n] h R := by
  refine ok_wherryref11_Name ?_
  unfold F_wherryref11_Name
  refine Itoa_ok t (by split <;> omega) (by split <;> omega) fun h' x => ⟨_, rfl, ?_, H h' x⟩
  have := Lib.itoa_length_le (if (0 : Int) > n then 0 else n) (by split <;> omega) (by split <;> omega)
  have e1 : ByteArray.size ⟨#[115, 104, 97, 114, 100, 32]⟩ = 6 := rfl
  have e2 : ByteArray.size ⟨(Lib.itoa (if (0 : Int) > n then 0 else n)).toArray⟩ = (Lib.itoa (if (0 : Int) > n then 0 else n)).length := by show Array.size _ = _; simp
  rw [e1, e2, max_i64]; omega

/-! ### awake -/
theorem cp0 : CP (4652218415073722368, 0) 0 := ⟨by decide, vr1024, vr0⟩
theorem cp1 : CP (4652209618980700160, 4607182418800017408) 1 := ⟨by decide, vr1023, vr1⟩
theorem cp1024 : CP (0, 4652218415073722368) 1024 := ⟨by decide, vr0, vr1024⟩
theorem awake11_ok {A : Amb} {h : Heap} {R : Value → Heap → Prop} (t : Tab h) (H : ∀ h', Ext h h' → R (.bool true) h') : HCalls A P f_wherrylaw11_awake #[] h R := by
  refine ok_wherrylaw11_awake ?_
  unfold F_wherrylaw11_awake
  refine Turn_ok (p := (4652218415073722368, 0)) (q := (0, 4652218415073722368)) cp0 cp1024 ⟨_, rfl, PIf.yes rfl (Turn_ok (p := (4652209618980700160, 4607182418800017408)) (q := (4652218415073722368, 0)) cp1 cp0 ⟨_, rfl, PIf.yes rfl (New.mk fun h1 _ hb1 x1 hs1 => ?_)⟩)⟩
  have v1 : View StrE h1 ⟨some ⟨h.size, 0, none⟩, 1, 1⟩ [(⟨#[104]⟩ : ByteArray)] := (Own.lit (E := StrE) (l := [(⟨#[104]⟩ : ByteArray)]) hb1 rfl (by simp [maxLen])).view
  have sz1 : ByteArray.size ⟨#[104]⟩ = 1 := rfl
  have sz2 : ByteArray.size ⟨#[107]⟩ = 1 := rfl
  refine Owner_ok (s := ⟨some ⟨h.size, 0, none⟩, 1, 1⟩) (l := [(⟨#[104]⟩ : ByteArray)]) v1 (fun x hx => by simp at hx; subst hx; rw [sz1]; decide) (by simp) (by rw [sz2]; decide) fun h2 x2 => ⟨_, rfl, ?_⟩
  refine PIf.yes (by rw [sEq_iff]; rfl) (Right_half ⟨_, rfl, PIf.yes rfl ?_⟩)
  have x02 : Ext h h2 := x1.trans x2
  refine Name_ok (t.ext x02) (by omega) fun h3 x3 => ⟨_, rfl, ?_⟩
  have e : ((⟨#[115, 104, 97, 114, 100, 32]⟩ : ByteArray) ++ ⟨(Lib.itoa (if (0 : Int) > 3 then 0 else 3)).toArray⟩) = ⟨#[115, 104, 97, 114, 100, 32, 51]⟩ := by
    have h1 : Lib.itoa (if (0 : Int) > 3 then 0 else 3) = [51] := by
      have := Lib.itoa_nonneg 3
      rw [Lib.decDigits_one (by decide)] at this
      exact this
    rw [h1]; rfl
  rw [e]
  have e2 : sEq (⟨#[115, 104, 97, 114, 100, 32, 51]⟩ : ByteArray) ⟨#[115, 104, 97, 114, 100, 32, 51]⟩ = true := by rw [sEq_iff]; simp
  rw [e2]
  exact H h3 (x02.trans x3)

/-! ### the statements -/
theorem RingOwners_ok {A : Amb} {h : Heap} {hosts : Sl} {l : List ByteArray} {key : ByteArray} {shards : Int} {R : Value → Heap → Prop} (t : Tab h) (v : View StrE h hosts l) (hl : ∀ x ∈ l, x.size ≤ 1099511627776) (hlen : l.length ≤ 1099511627776) (hk : key.size ≤ 1099511627776) (hs : shards ≤ 9223372036854775807)
    (H : ∀ h', Ext h h' → R (.bool true) h') : HCalls A P f_wherrylaw11_RingOwners #[.slice hosts.p hosts.len hosts.cap, .string key, .int .i64 shards] h R := by
  refine ok_wherrylaw11_RingOwners ?_
  unfold F_wherrylaw11_RingOwners
  refine awake11_ok t fun h1 x1 => ⟨_, rfl, PIf.no rfl ?_⟩
  refine Shard_ok hk ⟨_, _, rfl, rShard_ok hk ⟨_, _, rfl, ?_⟩⟩
  refine Owner_ok (v.ext x1) hl hlen hk fun h2 x2 => ⟨_, rfl, rOwner_ok ((v.ext x1).ext x2) hl hlen hk ⟨_, rfl, ?_⟩⟩
  have x02 : Ext h h2 := x1.trans x2
  refine PIf.yes (by rw [sEq_iff]; simp) (PIf.yes (by simp) (PIf.yes (by simp) ?_))
  refine Name_ok (t.ext x02) hs fun h3 x3 => ⟨_, rfl, rName_ok ((t.ext x02).ext x3) hs fun h4 x4 => ⟨_, rfl, ?_⟩⟩
  refine PIf.yes (by rw [sEq_iff]; simp) ?_
  have x04 : Ext h h4 := (x02.trans x3).trans x4
  refine PIf.intro (fun hq => H h4 x04) (fun hq => ?_)
  have h0 : ¬ (shardN key shards).2 = 0 := by simpa using hq
  have : (shardN key shards).2 = 1 := by
    unfold shardN at h0 ⊢
    split
    · rfl
    · rename_i hc; rw [if_neg hc] at h0; exact absurd rfl h0
  rw [this]
  exact H h4 x04

theorem RingRound_ok {A : Amb} {h : Heap} {a b c : ByteArray} {R : Value → Heap → Prop} (t : Tab h) (ha : a.size ≤ 1099511627776) (hb : b.size ≤ 1099511627776) (hc : c.size ≤ 1099511627776) (H : ∀ h', Ext h h' → R (.bool true) h') :
    HCalls A P f_wherrylaw11_RingRound #[.string a, .string b, .string c] h R := by
  refine ok_wherrylaw11_RingRound ?_
  unfold F_wherrylaw11_RingRound
  refine awake11_ok t fun h1 x1 => ⟨_, rfl, PIf.no rfl ?_⟩
  refine Place_ok ha fun p ca => ⟨p, rfl, Place_ok hb fun q cb => ⟨q, rfl, Place_ok hc fun r cc => ⟨r, rfl, ?_⟩⟩⟩
  refine Turn_ok ca cb ⟨_, rfl, Turn_ok cb cc ⟨_, rfl, Turn_ok ca cc ⟨_, rfl, Right_ok ca ⟨_, rfl, PIf.yes rfl ?_⟩⟩⟩⟩
  have l1 := stepsN_lt a
  have l2 := stepsN_lt b
  have l3 := stepsN_lt c
  generalize stepsN a = sa at *
  generalize stepsN b = sb at *
  generalize stepsN c = sc at *
  have q1 : turnN sa sb = (sb + 4096 - sa) % 4096 := rfl
  have q2 : turnN sb sc = (sc + 4096 - sb) % 4096 := rfl
  have q3 : turnN sa sc = (sc + 4096 - sa) % 4096 := rfl
  have q4 : turnN sb sa = (sa + 4096 - sb) % 4096 := rfl
  refine PIf.yes (by rw [decide_eq_true_eq]; omega) (PIf.yes (by rw [decide_eq_true_eq, q1]; omega) ?_)
  have e1 : (IntKind.wrap .i64 (((turnN sa sb : Nat) : Int) + ((turnN sb sc : Nat) : Int))).tmod (4096 : Int) = ((turnN sa sc : Nat) : Int) := by
    rw [wrap_i64 (by omega) (by omega), show ((turnN sa sb : Nat) : Int) + ((turnN sb sc : Nat) : Int) = ((turnN sa sb + turnN sb sc : Nat) : Int) by omega,
      show ((turnN sa sb + turnN sb sc : Nat) : Int).tmod (4096 : Int) = (((turnN sa sb + turnN sb sc) % 4096 : Nat) : Int) from (Int.ofNat_tmod _ 4096).symm]
    omega
  have e2 : (IntKind.wrap .i64 (((turnN sa sb : Nat) : Int) + ((turnN sb sa : Nat) : Int))).tmod (4096 : Int) = 0 := by
    rw [wrap_i64 (by omega) (by omega), show ((turnN sa sb : Nat) : Int) + ((turnN sb sa : Nat) : Int) = ((turnN sa sb + turnN sb sa : Nat) : Int) by omega,
      show ((turnN sa sb + turnN sb sa : Nat) : Int).tmod (4096 : Int) = (((turnN sa sb + turnN sb sa) % 4096 : Nat) : Int) from (Int.ofNat_tmod _ 4096).symm]
    omega
  rw [e1]
  refine PIf.yes (by simp) (Turn_ok cb ca ⟨_, rfl, ?_⟩)
  rw [e2]
  refine PIf.yes rfl (ceql_ok ⟨_, rfl, ?_⟩)
  rw [ca.2.1.order cb.2.1, ca.2.2.order cb.2.2]
  have e3 : ((((turnN sa sb : Nat) : Int) == (0 : Int)) == (some (compare (px sa) (px sb)) == some Ordering.eq && some (compare (py sa) (py sb)) == some Ordering.eq)) = true := by
    by_cases hs : sa = sb
    · subst hs
      have h0 : turnN sa sa = 0 := by rw [show turnN sa sa = (sa + 4096 - sa) % 4096 from rfl]; omega
      rw [h0, cmp_eq.2 rfl, cmp_eq.2 rfl]; rfl
    · have h0 : ¬ ((turnN sa sb : Nat) : Int) = 0 := by omega
      have h1 : (((turnN sa sb : Nat) : Int) == (0 : Int)) = false := by simpa using h0
      have h2 : (some (compare (px sa) (px sb)) == some Ordering.eq && some (compare (py sa) (py sb)) == some Ordering.eq) = false := by
        rw [Bool.and_eq_false_iff]
        by_cases h3 : px sa = px sb
        · right
          have h4 : ¬ py sa = py sb := fun h4 => hs (place_inj l1 l2 h3 h4)
          cases h5 : compare (py sa) (py sb)
          · rfl
          · exact absurd (cmp_eq.1 h5) h4
          · rfl
        · left
          cases h5 : compare (px sa) (px sb)
          · rfl
          · exact absurd (cmp_eq.1 h5) h3
          · rfl
      rw [h1, h2]; rfl
  rw [e3]
  exact H h1 x1

theorem RingFew_ok {A : Amb} {h : Heap} {hosts : Sl} {l : List ByteArray} {more key : ByteArray} {R : Value → Heap → Prop} (t : Tab h) (v : View StrE h hosts l) (hl : ∀ x ∈ l, x.size ≤ 1099511627776) (hlen : l.length ≤ 4194304) (hm : more.size ≤ 1099511627776) (hk : key.size ≤ 1099511627776)
    (H : ∀ h', Ext h h' → R (.bool true) h') : HCalls A P f_wherrylaw11_RingFew #[.slice hosts.p hosts.len hosts.cap, .string more, .string key] h R := by
  refine ok_wherrylaw11_RingFew ?_
  unfold F_wherrylaw11_RingFew
  refine awake11_ok t fun h1 x1 => ⟨_, rfl, PIf.no rfl ?_⟩
  refine Owner_ok (v.ext x1) hl (by omega) hk fun h2 x2 => ⟨_, rfl, ?_⟩
  have x02 : Ext h h2 := x1.trans x2
  refine append_own (E := StrE) (s := ⟨none, 0, 0⟩) (l := []) (src := hosts) app_str Own.nil (v.ext x02) (by simp; omega) (by simp [maxLen]; omega) fun s3 h3 o3 m3 bl3 _ => ?_
  have x23 : Ext h2 h3 := m3.weak (by simp [Sl.blk])
  have f3 : ∀ c, s3.blk = some c → h2.size ≤ c := fun c hc => (bl3 c hc).elim (fun h => by simp [Sl.blk] at h) id
  refine New.append1 (E := StrE) (x := more) rfl app_str o3 (by simp; omega) (by simp [maxLen]; omega) fun s5 h5 o5 m5 bl5 _ => ?_
  have x05 : Ext h h5 := (x02.trans x23).then (m5.weak fun c _ hc => .inr (by have := f3 c hc; have := x02.size; omega))
  rw [List.nil_append] at o5
  have hl5 : ∀ x ∈ l ++ [more], x.size ≤ 1099511627776 := fun x hx => by
    rcases List.mem_append.1 hx with h | h
    · exact hl x h
    · simp at h; subst h; exact hm
  refine Owner_ok o5.view hl5 (by simp; omega) hk fun h6 x6 => ⟨_, rfl, ?_⟩
  have x06 : Ext h h6 := x05.trans x6
  refine New.mk fun h7 _ hb7 x7 hs7 => ?_
  have o7 := Own.lit (E := StrE) (l := [more]) hb7 rfl (by simp [maxLen])
  have x07 : Ext h h7 := x06.trans x7
  refine append_own (E := StrE) (s := ⟨some ⟨h6.size, 0, none⟩, 1, 1⟩) (l := [more]) (src := hosts) app_str o7 (v.ext x07) (by simp; omega) (by simp [maxLen]; omega) fun s8 h8 o8 m8 bl8 _ => ?_
  have x08 : Ext h h8 := x07.then (m8.weak fun c _ hc => .inr (by simp [Sl.blk] at hc; subst hc; exact x06.size))
  have hl8 : ∀ x ∈ [more] ++ l, x.size ≤ 1099511627776 := fun x hx => hl5 x (by
    rcases List.mem_append.1 hx with h | h
    · exact List.mem_append_right _ h
    · exact List.mem_append_left _ h)
  refine Owner_ok o8.view hl8 (by simp; omega) hk fun h9 x9 => ⟨_, rfl, ?_⟩
  have x09 : Ext h h9 := x08.trans x9
  have hbc : ownerN key (l ++ [more]) = ownerN key ([more] ++ l) := owner_same fun x => by simp [or_comm]
  refine PIf.yes (by rw [sEq_iff, ← hbc]; simp) ?_
  rw [sEq_iff, sEq_iff]
  refine PIf.intro (fun hq => H h9 x09) (fun hq => ?_)
  have hba : ¬ ownerN key (l ++ [more]) = ownerN key l := by simpa using hq
  obtain ⟨g1, g2⟩ := owner_least (key := key) (l := l ++ [more]) (by simp)
  have : ownerN key (l ++ [more]) = more := by
    rcases List.mem_append.1 g1 with h | h
    · exact absurd (owner_uniq h fun y hy => g2 y (List.mem_append_left _ hy)).symm hba
    · simpa using h
  rw [this]
  simpa using H h9 x09

theorem RingOrder_ok {A : Amb} {h : Heap} {hosts : Sl} {l : List ByteArray} {key : ByteArray} {turn : Int} {R : Value → Heap → Prop} (t : Tab h) (v : View StrE h hosts l) (hl : ∀ x ∈ l, x.size ≤ 1099511627776) (hlen : l.length ≤ 4194304) (hk : key.size ≤ 1099511627776) (h1t : -9223372036854775808 ≤ turn) (h2t : turn ≤ 9223372036854775807)
    (H : ∀ h', Ext h h' → R (.bool true) h') : HCalls A P f_wherrylaw11_RingOrder #[.slice hosts.p hosts.len hosts.cap, .string key, .int .i64 turn] h R := by
  refine ok_wherrylaw11_RingOrder ?_
  unfold F_wherrylaw11_RingOrder
  refine awake11_ok t fun h1 x1 => ⟨_, rfl, PIf.no rfl ?_⟩
  have hsl := v.len
  refine PIf.intro (fun hq => ?_) (fun hq => ?_)
  · have : l = [] := by
      have h0 : ((hosts.len : Nat) : Int) = 0 := by simpa using hq
      exact List.eq_nil_of_length_eq_zero (by omega)
    subst this
    refine Owner_ok (v.ext x1) hl (by simp) hk fun h2 x2 => ⟨_, rfl, ?_⟩
    have e : sEq (ownerN key []) ⟨#[]⟩ = true := by rw [sEq_iff]; simp [ownerN]
    rw [e]; exact H h2 (x1.trans x2)
  have hn : ¬ ((hosts.len : Nat) : Int) = 0 := by simpa using hq
  -- the place at which the list is turned
  obtain ⟨k, hk1, hk2⟩ : ∃ k : Nat, (IntKind.wrap .i64 ((turn.tmod ((hosts.len : Nat) : Int)) + ((hosts.len : Nat) : Int))).tmod ((hosts.len : Nat) : Int) = ((k : Nat) : Int) ∧ k ≤ l.length := by
    have a1 : (turn.tmod ((hosts.len : Nat) : Int)).natAbs < hosts.len := by
      rw [Int.natAbs_tmod]
      exact Nat.mod_lt _ (by show 0 < ((hosts.len : Nat) : Int).natAbs; omega)
    rw [wrap_i64 (by omega) (by omega)]
    obtain ⟨j, hj⟩ : ∃ j : Nat, turn.tmod ((hosts.len : Nat) : Int) + ((hosts.len : Nat) : Int) = (j : Int) := ⟨(turn.tmod ((hosts.len : Nat) : Int) + ((hosts.len : Nat) : Int)).toNat, by omega⟩
    rw [hj]
    refine ⟨j % hosts.len, (Int.ofNat_tmod j hosts.len).symm, ?_⟩
    have := Nat.mod_lt j (show 0 < hosts.len by omega)
    omega
  rw [hk1]
  have hkn : ((k : Nat) : Int).toNat = k := by omega
  rw [hkn]
  have hcap := v.cap
  refine ⟨hn, hn, ⟨by omega, by omega⟩, ?_⟩
  have v1 := v.ext x1
  have vs := v1.sub (lo := k) (hi := l.length) hk2 (Nat.le_refl _)
  rw [← hsl] at vs
  refine append_own (E := StrE) (s := ⟨none, 0, 0⟩) (l := []) (src := ⟨slOff hosts.p hosts.cap k 1, hosts.len - k, hosts.cap - k⟩) app_str Own.nil vs (by simp; omega) (by simp [maxLen]; omega) fun s3 h3 o3 m3 bl3 _ => ?_
  have x13 : Ext h1 h3 := m3.weak (by simp [Sl.blk])
  have f3 : ∀ c, s3.blk = some c → h1.size ≤ c := fun c hc => (bl3 c hc).elim (fun h => by simp [Sl.blk] at h) id
  refine ⟨⟨by omega, by omega⟩, ?_⟩
  have v3 := v1.ext x13
  refine append_own (E := StrE) (s := s3) (src := ⟨slOff hosts.p hosts.cap 0 1, k - 0, hosts.cap - 0⟩) app_str o3 (v3.sub (lo := 0) (hi := k) (by omega) hk2) (by simp; omega) (by simp [maxLen]; omega) fun s4 h4 o4 m4 bl4 _ => ?_
  have x14 : Ext h1 h4 := x13.then (m4.weak fun c _ hc => .inr (f3 c hc))
  have f4 : ∀ c, s4.blk = some c → h1.size ≤ c := fun c hc => (bl4 c hc).elim (f3 c) fun h => Nat.le_trans x13.size h
  have eo : [] ++ List.drop k (List.take hosts.len l) ++ List.drop 0 (List.take k l) = l.drop k ++ l.take k := by rw [hsl, List.take_length]; simp
  rw [eo] at o4
  have hmem : ∀ x, x ∈ l ↔ x ∈ l.drop k ++ l.take k := fun x => by
    rw [List.mem_append]
    constructor
    · intro hx
      rw [← List.take_append_drop k l] at hx
      exact (List.mem_append.1 hx).symm
    · rintro (hx | hx)
      · exact List.mem_of_mem_drop hx
      · exact List.mem_of_mem_take hx
  have x04 : Ext h h4 := x1.trans x14
  refine Owner_ok (v.ext x04) hl (by omega) hk fun h5 x5 => ⟨_, rfl, ?_⟩
  have x05 : Ext h h5 := x04.trans x5
  have hne : l ≠ [] := by rintro rfl; simp at hsl; omega
  obtain ⟨hown, _⟩ := owner_least (key := key) hne
  have hl4 : ∀ x ∈ l.drop k ++ l.take k, x.size ≤ 1099511627776 := fun x hx => hl x ((hmem x).2 hx)
  refine Loop.rule (fun m x hh => ∃ (i : Nat) (f : Bool), x = (f, (i : Int), ()) ∧ m = l.length - i ∧ i ≤ l.length ∧ hh = h5 ∧ (f = true ↔ ownerN key l ∈ l.take i)) ?_ ⟨0, false, rfl, rfl, by omega, rfl, by simp⟩
  rintro K m _ hh ⟨i, f, rfl, rfl, hi, e, hf⟩ hK
  subst e
  refine PIf.intro (fun hq => ?_) (fun hq => ?_)
  · have hil : i < l.length := by simpa [hsl] using hq
    have hg := List.getElem?_eq_getElem hil
    generalize l[i] = y at hg
    have hsn : l.take (i + 1) = l.take i ++ [y] := by rw [List.take_add_one, hg]; rfl
    refine (v.ext x05).idx hg fun a _ ca => LoadS.mk ca.str (Join.mk fun K1 hK1 => ?_)
    have next : ∀ f', (f' = true ↔ ownerN key l ∈ l.take (i + 1)) → K1 (f', ()) hh := fun f' hf' => hK1 _ _ (hK (l.length - (i + 1)) _ _ (by omega) ⟨i + 1, f', by rw [wrap_succ (by omega)], rfl, hil, rfl, hf'⟩)
    refine PIf.intro (fun hq => ?_) (fun hq => ?_)
    · exact next true ⟨fun _ => by rw [hsn]; exact List.mem_append_left _ (hf.1 hq), fun _ => rfl⟩
    · refine next _ ?_
      rw [sEq_iff, decide_eq_true_eq, hsn, List.mem_append]
      have hq : f = false := hq
      constructor
      · intro hy; right; simp [hy]
      · rintro (h | h)
        · have := hf.2 h; rw [hq] at this; cases this
        · exact (List.mem_singleton.1 h).symm
  · have hil : i = l.length := by simp [hsl] at hq; omega
    subst hil
    rw [List.take_length] at hf
    refine PIf.yes (hf.2 hown) ?_
    refine Owner_ok (o4.ext x5).view hl4 (by simp; omega) hk fun h6 x6 => ⟨_, rfl, ?_⟩
    have e1 := owner_same (key := key) hmem
    refine PIf.yes (by rw [sEq_iff, e1]; simp) ?_
    have x56 : Ext h4 h6 := x5.trans x6
    have x06 : Ext h h6 := x04.trans x56
    refine append_own (E := StrE) (s := s4) (src := hosts) app_str (o4.ext x56) (v.ext x06) (by simp; omega) (by simp [maxLen]; omega) fun s7 h7 o7 m7 bl7 _ => ?_
    have x07 : Ext h h7 := x06.then (m7.weak fun c _ hc => .inr (by have := f4 c hc; have := x1.size; omega))
    have hl7 : ∀ x ∈ (l.drop k ++ l.take k) ++ l, x.size ≤ 1099511627776 := fun x hx => by
      rcases List.mem_append.1 hx with h | h
      · exact hl4 x h
      · exact hl x h
    refine Owner_ok o7.view hl7 (by simp; omega) hk fun h8 x8 => ⟨_, rfl, ?_⟩
    have e2 : ownerN key ((l.drop k ++ l.take k) ++ l) = ownerN key l := owner_same fun x => by
      rw [List.mem_append, ← hmem x]; simp
    have e3 : sEq (ownerN key ((l.drop k ++ l.take k) ++ l)) (ownerN key l) = true := by rw [sEq_iff, e2]; simp
    rw [e3]
    exact H h8 (x07.trans x8)
end Go.Lf.G
