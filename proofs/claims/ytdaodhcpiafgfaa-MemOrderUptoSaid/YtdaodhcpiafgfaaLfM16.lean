/-
  The statement MemOrder over the formulas.
-/
import Derived.Test.YtdaodhcpiafgfaaLfM15
set_option maxRecDepth 100000
namespace Go.Lf.G
open Go

def Dist (l : List Pr) : Prop := l.Pairwise fun x y => x.key ≠ y.key

theorem Dist.uniq {l : List Pr} (d : Dist l) {x y : Pr} (hx : x ∈ l) (hy : y ∈ l) (h : x.key = y.key) : x = y := by
  induction l with
  | nil => cases hx
  | cons z l ih =>
    have d' := List.pairwise_cons.1 d
    rcases List.mem_cons.1 hx with e1 | hx2
    · rcases List.mem_cons.1 hy with e2 | hy2
      · rw [e1, e2]
      · subst e1; exact absurd h (d'.1 y hy2)
    · rcases List.mem_cons.1 hy with e2 | hy2
      · subst e2; exact absurd h.symm (d'.1 x hx2)
      · exact ih d'.2 hx2 hy2

def okK (k : ByteArray) (x : Pr) : Bool := decide (x.key = k) && decide (wrongP x = 0)

theorem putsL_dist {l : List Pr} (k : ByteArray) : ∀ {t}, Sorted t → Dist l → findK k (putsL t l) = (l.find? (okK k)).or (findK k t) := by
  induction l with
  | nil => intro t _ _; simp [putsL]
  | cons x l ih =>
    intro t st d
    have d' := List.pairwise_cons.1 d
    show findK k (putsL (putL x t) l) = _
    rw [ih (putL_sorted st) d'.2, List.find?_cons]
    by_cases hw : wrongP x = 0
    · rw [putL_good hw, ins_find x k st]
      by_cases hk : x.key = k
      · have h1 : l.find? (okK k) = none := by
          rw [List.find?_eq_none]
          intro y hy h
          simp [okK] at h
          exact d'.1 y hy (hk.trans h.1.symm)
        simp [okK, hk, hw, h1]
      · simp [okK, hk]
    · have : putL x t = t := by simp [putL, hw]
      rw [this]
      simp [okK, hw]

theorem putsL_perm {l m : List Pr} (d : Dist l) (d' : Dist m) (h : ∀ x, x ∈ l ↔ x ∈ m) : putsL [] l = putsL [] m := by
  refine (putsL_sorted List.Pairwise.nil).ext (putsL_sorted List.Pairwise.nil) fun k => ?_
  rw [putsL_dist k List.Pairwise.nil d, putsL_dist k List.Pairwise.nil d']
  congr 1
  cases h1 : l.find? (okK k) with
  | none =>
    cases h2 : m.find? (okK k) with
    | none => rfl
    | some y =>
      have h3 := List.find?_some h2
      have h4 := (List.find?_eq_none.1 h1) y ((h y).2 (List.mem_of_find?_eq_some h2))
      exact absurd h3 h4
  | some x =>
    have h3 := List.find?_some h1
    have hx := List.mem_of_find?_eq_some h1
    cases h2 : m.find? (okK k) with
    | none => exact absurd h3 ((List.find?_eq_none.1 h2) x ((h x).1 hx))
    | some y =>
      have h4 := List.find?_some h2
      have hy := (h y).2 (List.mem_of_find?_eq_some h2)
      simp [okK] at h3 h4
      rw [d.uniq hx hy (h3.1.trans h4.1.symm)]

/-! ### the turn -/
def kk (n : Nat) (turn : Int) (j : Nat) : Nat := (((j : Int) + turn) % (n : Int)).toNat
theorem kk_lt {n : Nat} (hn : 0 < n) (turn : Int) (j : Nat) : ((kk n turn j : Nat) : Int) = ((j : Int) + turn) % (n : Int) ∧ kk n turn j < n := by
  have h1 := Int.emod_nonneg ((j : Int) + turn) (show (n : Int) ≠ 0 by omega)
  have h2 := Int.emod_lt_of_pos ((j : Int) + turn) (show (0 : Int) < (n : Int) by omega)
  unfold kk
  omega
theorem kk_calc {n : Nat} (hn : 0 < n) (turn : Int) (j : Nat) : (((j : Int) + turn.tmod (n : Int)).tmod (n : Int) + (n : Int)).tmod (n : Int) = ((kk n turn j : Nat) : Int) := by
  rw [(kk_lt hn turn j).1]
  have h0 : -(n : Int) < ((j : Int) + turn.tmod (n : Int)).tmod (n : Int) := Int.lt_tmod_of_pos _ (by omega)
  rw [Int.tmod_eq_emod_of_nonneg (by omega), Int.tmod_def ((j : Int) + turn.tmod (n : Int)) (n : Int), Int.tmod_def turn (n : Int)]
  generalize ((j : Int) + (turn - (n : Int) * turn.tdiv (n : Int))).tdiv (n : Int) = q2
  generalize turn.tdiv (n : Int) = q1
  have : (j : Int) + (turn - (n : Int) * q1) - (n : Int) * q2 + (n : Int) = ((j : Int) + turn) + (n : Int) * (1 - q1 - q2) := by
    rw [Int.mul_sub, Int.mul_sub, Int.mul_one]; omega
  rw [this, Int.add_mul_emod_self_left]
theorem kk_inj {n : Nat} (hn : 0 < n) {turn : Int} {i j : Nat} (hij : i < j) (hj : j < n) : kk n turn i ≠ kk n turn j := by
  intro e
  have h1 := (kk_lt hn turn i).1
  have h2 := (kk_lt hn turn j).1
  rw [e] at h1
  have d1 : (n : Int) ∣ ((i : Int) + turn) - ((kk n turn j : Nat) : Int) := Int.dvd_self_sub_of_emod_eq h1.symm
  have d2 : (n : Int) ∣ ((j : Int) + turn) - ((kk n turn j : Nat) : Int) := Int.dvd_self_sub_of_emod_eq h2.symm
  have d3 := Int.dvd_sub d2 d1
  have e3 : ((j : Int) + turn) - ((kk n turn j : Nat) : Int) - (((i : Int) + turn) - ((kk n turn j : Nat) : Int)) = (j : Int) - (i : Int) := by omega
  rw [e3] at d3
  have := Int.le_of_dvd (by omega) d3
  omega
theorem kk_sur {n : Nat} (turn : Int) {k : Nat} (hk : k < n) : ∃ j, j < n ∧ kk n turn j = k := by
  have h1 := Int.emod_nonneg ((k : Int) - turn) (show (n : Int) ≠ 0 by omega)
  have h2 := Int.emod_lt_of_pos ((k : Int) - turn) (show (0 : Int) < (n : Int) by omega)
  refine ⟨(((k : Int) - turn) % (n : Int)).toNat, by omega, ?_⟩
  have h3 := (kk_lt (show 0 < n by omega) turn (((k : Int) - turn) % (n : Int)).toNat).1
  have e : (((((k : Int) - turn) % (n : Int)).toNat : Nat) : Int) = ((k : Int) - turn) % (n : Int) := by omega
  rw [e, Int.emod_add_emod, Int.sub_add_cancel, Int.emod_eq_of_lt (a := (k : Int)) (b := (n : Int)) (by omega) (by omega)] at h3
  omega

def turnL (L : List Pr) (turn : Int) : List Pr := (List.range L.length).map fun j => L.getD (L.length - 1 - kk L.length turn j) zeroP

theorem turnL_get {L : List Pr} {turn : Int} {j : Nat} (hj : j < L.length) : L[L.length - 1 - kk L.length turn j]? = (turnL L turn)[j]? ∧ ∃ x, (turnL L turn)[j]? = some x := by
  have h1 := (kk_lt (show 0 < L.length by omega) turn j).2
  have hlt : L.length - 1 - kk L.length turn j < L.length := by omega
  have e : (turnL L turn)[j]? = some (L.getD (L.length - 1 - kk L.length turn j) zeroP) := by simp [turnL, hj]
  refine ⟨?_, _, e⟩
  rw [e, List.getElem?_eq_getElem hlt]
  simp [List.getD, hlt]

theorem turnL_dist {L : List Pr} (d : Dist L) (turn : Int) : Dist (turnL L turn) := by
  refine List.pairwise_iff_getElem.2 fun i j hi hj hij => ?_
  have hl : (turnL L turn).length = L.length := by simp [turnL]
  rw [hl] at hi hj
  have a1 := (turnL_get (turn := turn) hi).1
  have a2 := (turnL_get (turn := turn) hj).1
  rw [List.getElem?_eq_getElem (by omega)] at a1 a2
  have k1 := (kk_lt (show 0 < L.length by omega) turn i).2
  have k2 := (kk_lt (show 0 < L.length by omega) turn j).2
  rw [List.getElem?_eq_getElem (by omega)] at a1 a2
  have hne := kk_inj (show 0 < L.length by omega) (turn := turn) hij hj
  have p := List.pairwise_iff_getElem.1 d
  rw [← Option.some.inj a1, ← Option.some.inj a2]
  rcases Nat.lt_or_gt_of_ne hne with h | h
  · exact fun e => p (L.length - 1 - kk L.length turn j) (L.length - 1 - kk L.length turn i) (by omega) (by omega) (by omega) e.symm
  · exact p (L.length - 1 - kk L.length turn i) (L.length - 1 - kk L.length turn j) (by omega) (by omega) (by omega)

theorem turnL_mem {L : List Pr} (turn : Int) (x : Pr) : x ∈ L ↔ x ∈ turnL L turn := by
  constructor
  · intro hx
    obtain ⟨i, hi, rfl⟩ := List.getElem_of_mem hx
    obtain ⟨j, hj, e⟩ := kk_sur turn (show L.length - 1 - i < L.length by omega)
    have := (turnL_get (turn := turn) hj).1
    rw [e, show L.length - 1 - (L.length - 1 - i) = i by omega, List.getElem?_eq_getElem hi] at this
    exact List.mem_of_getElem? this.symm
  · intro hx
    obtain ⟨j, hj, e⟩ := List.getElem_of_mem hx
    have hl : (turnL L turn).length = L.length := by simp [turnL]
    have := (turnL_get (turn := turn) (by omega : j < L.length)).1
    rw [List.getElem?_eq_getElem hj, e] at this
    exact List.mem_of_getElem? this

set_option maxHeartbeats 1000000 in
theorem MemOrder_ok {A : Amb} {h : Heap} {s : Sl} {l : List Pr} {turn : Int} {R : Value → Heap → Prop} (v : View PairE h s l) (hl : l.length < 1099511627776) (H : ∀ h', Ext h h' → R (.bool true) h') :
    HCalls A P f_wherrylaw05_MemOrder #[.slice s.p s.len s.cap, .int .i64 turn] h R := by
  refine ok_wherrylaw05_MemOrder ?_
  unfold F_wherrylaw05_MemOrder
  refine awake05_ok fun h1 x1 => ⟨_, rfl, PIf.no rfl ?_⟩
  refine New_ok fun h2 T2 x2 hs2 => ⟨_, rfl, ?_⟩
  refine New_ok fun h3 T3 x3 hs3 => ⟨_, rfl, ?_⟩
  refine New.mk fun h4 _ hb4 x4 hs4 => ?_
  have x14 : Ext h1 h4 := (x2.trans x3).trans x4
  have sz14 := x14.size
  have hmap0 : MapIs h4 h3.size [] := ⟨#[], 0, hb4, rfl⟩
  refine Loop.rule (fun mm x h5 => ∃ (i : Nat) (y : Sl) (L : List Pr) (m : List (ByteArray × Value)), x = (y, (i : Int), ()) ∧ mm = l.length - i ∧ i ≤ l.length ∧ Ext h1 h5 ∧ Tab h5 h1.size [] [] ∧ Tab h5 h2.size [] [] ∧ MapIs h5 h3.size m ∧ Own PairE t_api_Pair h5 y L ∧ (∀ c, y.blk = some c → h4.size ≤ c) ∧ Dist L ∧ L.length ≤ i ∧
      (∀ k, (lookM k m = some (.bool true) ∧ ∃ x ∈ L, x.key = k) ∨ (lookM k m = none ∧ ∀ x ∈ L, x.key ≠ k))) ?_
    ⟨0, ⟨none, 0, 0⟩, [], [], rfl, rfl, by omega, x14, T2.ext (x3.trans x4), T3.ext x4, hmap0, Own.nil, (fun c hc => by simp [Sl.blk] at hc), List.Pairwise.nil, by simp, fun k => .inr ⟨rfl, fun x hx => by cases hx⟩⟩
  rintro K mm _ h5 ⟨i, y, L, m, rfl, rfl, hi, x5, TA, TB, hm, o, hy, hd, hLi, hlook⟩ hK
  have sz5 := x5.size
  have hin0 : ∀ t b, inT t [] b → b = t := fun t b hb => by
    rcases hb with rfl | ⟨x, hx, _⟩
    · rfl
    · cases hx
  refine PIf.intro (fun hq => ?_) (fun hq => ?_)
  · have hi' : i < l.length := by simp [v.len] at hq; omega
    have hgi := List.getElem?_eq_getElem hi'
    refine Join.mk fun K1 hK1 => ?_
    refine (v.ext (x1.trans x5)).idx hgi fun a1 _ c1 => ?_
    refine LoadS.mk c1.pair.1 (LoadS.mk c1.pair.2.1 (LoadB.mk c1.pair.2.2 ?_))
    refine New.pair fun b1 h10 eb hb10 x10 hs10 => ?_
    refine LoadS.mk (hget_lit hb10 rfl) ?_
    have hm10 := hm.mod x10 (fun h => h)
    refine lookup_ok P_msb P_str P_zb hm10 ?_
    rcases hlook l[i].key with ⟨hlk, x, hx, hxk⟩ | ⟨hlk, hno⟩
    · rw [hlk]
      refine ⟨true, rfl, PIf.no rfl (hK1 _ _ (hK (l.length - (i + 1)) _ _ (by omega) ⟨i + 1, y, L, m, by rw [wrap_succ (by omega)], rfl, by omega, x5.trans x10, TA.ext x10, TB.ext x10, hm10, o.ext x10, hy, hd, by omega, hlook⟩))⟩
    · rw [hlk]
      refine ⟨false, rfl, PIf.yes rfl ?_⟩
      refine LoadS.mk (hget_lit hb10 rfl) ?_
      refine update_ok (v := .bool true) P_msb P_str hm10 fun h12 hm12 m12 hs12 => ?_
      have hmb : h3.size < h5.size := by obtain ⟨es, cl, hb, _⟩ := hm; exact blk_lt hb
      have hb12 := m12.blk hb10 (by omega)
      refine LoadS.mk (hget_lit hb12 rfl) (LoadS.mk (hget_lit1 hb12 rfl) (LoadB.mk (hget_lit1 hb12 rfl) ?_))
      have o12 := (o.ext x10).mod m12 (fun c hc e => by have := hy c hc; omega)
      refine New.append1 (E := PairE) (x := l[i]) rfl app_pair o12 (by omega) (by simp [maxLen]; omega) fun s4 h9 o9 m9 bl9 _ => ?_
      have hA : ∀ t, t = h1.size ∨ t = h2.size → ∀ b, inT t [] b → ¬ (b = h3.size) ∧ ¬ (y.blk = some b) := fun t ht b hb => by
        have := hin0 t b hb
        refine ⟨by omega, fun e => by have := hy b e; omega⟩
      refine hK1 _ _ (hK (l.length - (i + 1)) _ _ (by omega) ⟨i + 1, s4, L ++ [l[i]], _, by rw [wrap_succ (by omega)], rfl, by omega, ?_, ?_, ?_, hm12.mod m9 (fun e => by have := hy _ e; omega), o9, ?_, ?_, by simp; omega, fun k => ?_⟩)
      · exact ((x5.trans x10).then (m12.weak fun c _ hc => .inr (by omega))).then (m9.weak fun c _ hc => .inr (by have := hy c hc; omega))
      · exact ((TA.ext x10).mod m12 (fun b hb => (hA _ (.inl rfl) b hb).1)).mod m9 (fun b hb => (hA _ (.inl rfl) b hb).2)
      · exact ((TB.ext x10).mod m12 (fun b hb => (hA _ (.inr rfl) b hb).1)).mod m9 (fun b hb => (hA _ (.inr rfl) b hb).2)
      · intro c hc
        rcases bl9 c hc with h6 | h6
        · exact hy c h6
        · omega
      · exact List.pairwise_append.2 ⟨hd, List.pairwise_singleton _ _, fun x hx z hz => by simp at hz; subst hz; exact hno x hx⟩
      · rw [lookM_upd]
        by_cases hk : l[i].key = k
        · rw [if_pos hk]; exact .inl ⟨rfl, l[i], by simp, hk⟩
        · rw [if_neg hk]
          rcases hlook k with ⟨h6, x, hx, h7⟩ | ⟨h6, h7⟩
          · exact .inl ⟨h6, x, by simp [hx], h7⟩
          · exact .inr ⟨h6, fun x hx => by simp at hx; rcases hx with hx | rfl; exact h7 x hx; exact hk⟩
  · clear hK
    have hyl : y.len = L.length := o.len
    dsimp only
    refine Loop.rule (fun mm x h15 => ∃ (j : Nat) (na nb : List SNode), x = ((j : Int), ()) ∧ mm = L.length - j ∧ j ≤ L.length ∧ Ext h1 h15 ∧ Tab h15 h1.size na (putsL [] (L.take j)) ∧ Tab h15 h2.size nb (putsL [] ((turnL L turn).take j)) ∧ Own PairE t_api_Pair h15 y L ∧
        (∀ b, inT h1.size na b → h1.size ≤ b ∧ ¬ inT h2.size nb b ∧ y.blk ≠ some b) ∧ (∀ b, inT h2.size nb b → h1.size ≤ b ∧ y.blk ≠ some b)) ?_
      ⟨0, [], [], rfl, rfl, by omega, x5, TA, TB, o, fun b hb => ?_, fun b hb => ?_⟩
    rotate_left
    · have e1 := hin0 _ b hb
      refine ⟨by omega, fun h6 => by have := hin0 _ b h6; omega, fun e => by have := hy b e; omega⟩
    · have e1 := hin0 _ b hb
      exact ⟨by omega, fun e => by have := hy b e; omega⟩
    rintro K2 mm _ h15 ⟨j, na, nb, rfl, rfl, hj, x15, TA, TB, o, hza, hzb⟩ hK2
    have sz15 := x15.size
    have hLl : L.length < 1099511627776 := by omega
    have hpa := putsL_len (l := L.take j) (t := [])
    have hpb := putsL_len (l := (turnL L turn).take j) (t := [])
    have htl : (turnL L turn).length = L.length := by simp [turnL]
    simp only [List.length_nil, List.length_take] at hpa hpb
    refine PIf.intro (fun hq => ?_) (fun hq => ?_)
    · have hj' : j < L.length := by simp [hyl] at hq; omega
      have hgj := List.getElem?_eq_getElem hj'
      refine o.view.idx hgj fun a1 _ c1 => ?_
      refine LoadS.mk c1.pair.1 (LoadS.mk c1.pair.2.1 (LoadB.mk c1.pair.2.2 ?_))
      refine mPut_ok (x := L[j]) TA (by omega) fun na' h16 TA' m16 b16 => ⟨_, rfl, ?_⟩
      have sz16 := m16.size
      have TB16 := TB.mod m16 (fun b hb h6 => (hza b h6).2.1 hb)
      have o16 := o.mod m16 (fun c hc h6 => (hza c h6).2.2 hc)
      have hn0 : ((y.len : Nat) : Int) ≠ 0 := by omega
      refine ⟨hn0, hn0, hn0, ?_⟩
      have hkl := (kk_lt (show 0 < L.length by omega) turn j).2
      have hZ : IntKind.wrap .i64 ((IntKind.wrap .i64 (((y.len : Nat) : Int) - (1 : Int))) - ((IntKind.wrap .i64 (((IntKind.wrap .i64 ((j : Int) + (turn.tmod ((y.len : Nat) : Int)))).tmod ((y.len : Nat) : Int)) + ((y.len : Nat) : Int))).tmod ((y.len : Nat) : Int))) = ((L.length - 1 - kk L.length turn j : Nat) : Int) := by
        rw [hyl]
        have r1 : -((L.length : Nat) : Int) < turn.tmod ((L.length : Nat) : Int) := Int.lt_tmod_of_pos _ (by omega)
        have r2 : turn.tmod ((L.length : Nat) : Int) < ((L.length : Nat) : Int) := Int.tmod_lt_of_pos _ (by omega)
        have r3 : -((L.length : Nat) : Int) < ((j : Int) + turn.tmod ((L.length : Nat) : Int)).tmod ((L.length : Nat) : Int) := Int.lt_tmod_of_pos _ (by omega)
        have r4 : ((j : Int) + turn.tmod ((L.length : Nat) : Int)).tmod ((L.length : Nat) : Int) < ((L.length : Nat) : Int) := Int.tmod_lt_of_pos _ (by omega)
        rw [wrap_int (z := (j : Int) + turn.tmod ((L.length : Nat) : Int)) (by omega) (by omega)]
        rw [wrap_int (z := ((j : Int) + turn.tmod ((L.length : Nat) : Int)).tmod ((L.length : Nat) : Int) + ((L.length : Nat) : Int)) (by omega) (by omega)]
        rw [kk_calc (by omega), wrap_int (z := ((L.length : Nat) : Int) - 1) (by omega) (by omega), wrap_int (by omega) (by omega)]
        omega
      obtain ⟨ht1, x2, ht2⟩ := turnL_get (turn := turn) hj'
      dsimp only
      rw [hZ]
      refine o16.view.idx (ht1.trans ht2) fun a2 _ c2 => ?_
      rw [Int.toNat_natCast]
      refine LoadS.mk c2.pair.1 (LoadS.mk c2.pair.2.1 (LoadB.mk c2.pair.2.2 ?_))
      refine mPut_ok (x := x2) TB16 (by omega) fun nb' h17 TB' m17 b17 => ⟨_, rfl, ?_⟩
      have sz17 := m17.size
      have hdisj : ∀ b, inT h1.size na' b → ¬ inT h2.size nb b := fun b hb h6 => by
        rcases b16 b hb with h7 | h7
        · exact (hza b h7).2.1 h6
        · have := TB.lt h6; omega
      refine hK2 (L.length - (j + 1)) _ _ (by omega) ⟨j + 1, na', nb', by rw [wrap_succ (by omega)], rfl, by omega, (x15.then (m16.weak fun c _ hc => .inr (hza c hc).1)).then (m17.weak fun c _ hc => .inr (hzb c hc).1), ?_, ?_, o16.mod m17 (fun c hc h6 => (hzb c h6).2 hc), fun b hb => ?_, fun b hb => ?_⟩
      · rw [putsL_take hgj]; exact TA'.mod m17 (fun b hb => hdisj b hb)
      · rw [putsL_take ht2]; exact TB'
      · refine ⟨?_, fun h6 => ?_, fun e => ?_⟩
        · rcases b16 b hb with h7 | h7
          · exact (hza b h7).1
          · omega
        · rcases b17 b h6 with h7 | h7
          · exact hdisj b hb h7
          · have := TA'.lt hb; omega
        · rcases b16 b hb with h7 | h7
          · exact (hza b h7).2.2 e
          · have := o.lt e; omega
      · refine ⟨?_, fun e => ?_⟩
        · rcases b17 b hb with h7 | h7
          · exact (hzb b h7).1
          · omega
        · rcases b17 b hb with h7 | h7
          · exact (hzb b h7).2 e
          · have := o16.lt e; omega
    · have hj' : j = L.length := by simp [hyl] at hq; omega
      rw [hj', List.take_length] at TA
      rw [hj', ← htl, List.take_length, ← putsL_perm hd (turnL_dist hd turn) (turnL_mem turn)] at TB
      rw [hj', List.take_length] at hpa
      refine mLen_ok TA ⟨_, _, rfl, mLen_ok TB ⟨_, _, rfl, PIf.yes (by simp) (PIf.yes (by simp) ?_)⟩⟩
      refine mFrom_ok TA fun f1 h20 it1 x20 _ => ⟨_, rfl, ?_⟩
      rw [drop_empty] at it1
      refine Collect_ok it1 (fun _ _ => rfl) (by omega) fun w1 h21 o21 _ x21 => ⟨w1, rfl, ?_⟩
      refine mFrom_ok ((TB.ext x20).ext x21) fun f2 h22 it2 x22 _ => ⟨_, rfl, ?_⟩
      rw [drop_empty] at it2
      refine Collect_ok it2 (fun _ _ => rfl) (by omega) fun w2 h23 o23 _ x23 => ⟨w2, rfl, ?_⟩
      refine Same_ok (o21.ext (x22.trans x23)).view o23.view (by omega) ⟨_, rfl, ?_⟩
      rw [decide_eq_true rfl]
      exact H h23 (((((x1.trans x15).trans x20).trans x21).trans x22).trans x23)
end Go.Lf.G
