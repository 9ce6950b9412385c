/-
 Contract: all tables become one (chapter 9).
-/
import Derived.Test.YtdmlhpjdmgaggaaGreatDoorLfZ7ToZ9
set_option linter.unusedVariables false
set_option linter.unusedSimpArgs false
set_option maxRecDepth 100000
set_option linter.unusedVariables false
set_option linter.unusedSimpArgs false
namespace Go.Lf.G
open Go
open M (Sorted Ah Df BL Al BF CZ Au OkL Bo)
structure AGV (B : Bud) (h h' : Heap) (q : Hp) (k : Nat → Nat) (m m' : Bx) (age : Nat) : Prop where
 fuel : m.fuel ≠ -1
 dn : PD h' q.d
 box : ∃ S', BV h' q.b S' m' ∧ ∀ c, S' c → k c ≠ 0 ∨ h.size ≤ c
 down : m'.down = true
 mod : Mod (fun c => k c ≠ 0) h h'
 oth : ∀ y, ¬ Mine y → ff m' y = ff m y
 wt : wtF m'.files ≤ B.W0 + age * B.K
section
variable {A : Amb} {B : Bud} {g h : Heap} {q : Hp} {k : Nat → Nat} {st : Db} {m : Bx} {D : BK} {age c : Nat} {R : Value → Heap → Prop}
theorem Gf {h1 : Heap} {S1 : Nat → Prop} {m' : Bx} (W : DbH g h q k st m) (Bx' : BV h1 q.b S1 m') (md : Mod (fun c => q.Sb c ∨ c = q.lg ∨ c = q.nt) h h1) (s1 : ∀ c, S1 c → q.Sb c ∨ h.size ≤ c)
  (H : ∀ h2, PD h2 q.d → BV h2 q.b S1 m' → Mod (fun c => k c ≠ 0) h h2 → (∀ c, S1 c → k c ≠ 0 ∨ h.size ≤ c) → R (.int .i64 30) h2) : AA A P Bb #[BC q.d, .int .i64 30] h1 R := by
 have hdl := W.dlt
 have cd : h1[q.d]? = some (.cells (dbC q st false) De (0, 0)) := md.blk W.cell (by
  rintro (h | h | h)
  ·exact W.nSd h
  ·exact W.dl h
  ·exact W.dn h)
 have nd : ¬ S1 q.d := fun hc => by
  rcases s1 _ hc with h | h
  ·exact W.nSd h
  ·omega
 refine AJc cd fun h2 d2 m2 s2 => H h2 d2 (Bx'.mod m2 fun c hc e => nd (e ▸ hc)) ((md.weak fun c _ hc => ?_).trans (m2.weak fun c _ hc => ?_)) fun c hc => (s1 c hc).imp (fun h => by rw [W.kb c h]; decide) id
 ·rcases hc with hc | rfl | rfl
  ·rw [W.kb c hc]; decide
  ·rw [W.kl]; decide
  ·rw [W.kn]; decide
 ·rw [hc, W.kd]; decide
theorem AKZ (n : Nat) : Mine (tfN n) := .inr (.inr ⟨n, rfl⟩)
theorem ALA (n : Nat) : Mine (fnB nn n) := .inr (.inl ⟨n, rfl⟩)
theorem AKW (n : Nat) : Mine (fnB nl n) := .inl ⟨n, rfl⟩
theorem Mj {y : ByteArray} (h : ¬ Mine y) (n : Nat) : y ≠ tfN n := fun e => h (e ▸ AKZ n)
theorem AAH {y : ByteArray} (h : ¬ Mine y) (n : Nat) : y ≠ fnB nn n := fun e => h (e ▸ ALA n)
theorem AFH {y : ByteArray} (h : ¬ Mine y) (n : Nat) : y ≠ fnB nl n := fun e => h (e ▸ AKW n)
theorem AHt (W : DbH g h q k st m) (L : DX (ff m) st D) (l : Ob st D age c) (hc : c ≤ B.C) (hne : EQ (tabsS st) ≠ []) : Eu (EQ (tabsS st)) := by
 have h1 := L.leftlen l
 have h2 := L.frlen l
 have h3 := B.hC
 exact ⟨hne, fun x hx => AF8 (Vp.2 x hx), Vp.1, by omega⟩
theorem Bud.step (B : Bud) {w w' age d : Nat} (h : w ≤ B.W0 + age * B.K) (h2 : w' ≤ w + d) (hd : d ≤ 20000 * B.C + 10000000) : w' ≤ B.W0 + (age + 1) * B.K := by
 have e : (age + 1) * B.K = age * B.K + B.K := Nat.succ_mul _ _
 have e2 : B.K = 20000 * B.C + 10000000 := rfl
 rw [e]
 generalize age * B.K = x at *
 omega
theorem AI5 {t w a c : Nat} (h1 : t ≤ 8400 * c + 1100000) (h2 : w ≤ a) (h3 : a ≤ 8000000000000) (h4 : c ≤ 100000) : w + t + 1 ≤ 8796093022208 := by omega
theorem AK3 {w w1 w' x : Nat} (h1 : w1 ≤ w + x) (h2 : w' ≤ w1 + 700000) : w' ≤ w + (x + 700000) := by
 rw [← Nat.add_assoc]
 exact Nat.le_trans h2 (Nat.add_le_add_right h1 _)
theorem AIR (C : Nat) : 8400 * C + 1100001 + 700000 ≤ 20000 * C + 10000000 := by omega
theorem Bud.step2 (B : Bud) {w w1 w' age : Nat} (h : w ≤ B.W0 + age * B.K) (h1 : w1 ≤ w + (8400 * B.C + 1100001)) (h2 : w' ≤ w1 + 700000) : w' ≤ B.W0 + (age + 1) * B.K :=
 B.step h (AK3 h1 h2) (AIR B.C)
theorem Wd (E : Evn g) (S : BA B g h q k st m D age c) (hA : age + 1 ≤ B.A)
  (H0 : ∀ h' m', AGV B h h' q k m m' (age + 1) → Xl (ff m') (age + 1) c (BH st) → R (.int .i64 30) h')
  (H1 : ∀ h' q' k' st' m' D', q'.d = q.d → q'.b = q.b → BA B g h' q' k' st' m' D' (age + 1) c → GQ m m' → st'.fr = st.fr → BH st' = BH st → st'.ts.length ≤ 1 → (∀ y, ¬ Mine y → ff m' y = ff m y) → Mod (fun c => k c ≠ 0) h h' → (∀ c, k' c ≠ 0 → k c ≠ 0 ∨ h.size ≤ c) → R (.int .i64 0) h') :
  AA A P DU #[BC q.d] h R := by
 have S0 := S
 obtain ⟨W, hd, L, l, hw, hc⟩ := S
 have hBA := B.hA
 have hBC := B.hC
 have hW8 := B.wt (a := age) (by omega)
 refine LH ?_
 unfold Gc
 refine Join.mk fun K hK => SA W (hK _ _ (PIf.no rfl ?_))
 refine atI (AQ.mk (s := q.tp) (AB W.cell rfl) ?_)
 have hpl := W.tlen
 have htl := W.tabs.len
 have hcnt := l.cnt
 refine PIf.intro (fun hq => ?_) (fun hq => ?_)
 ·have h1 : st.ts.length ≤ 1 := by
   have := of_decide_eq_true hq
   omega
  exact H1 h q k st m D rfl rfl (S0.age (by omega)) (GQ.refl hd) rfl rfl h1 (fun _ _ => rfl) Mod.refl (fun c hc => .inl hc)
 refine atI (AQ.mk (s := q.tp) (AB W.cell rfl) ?_)
 refine Loop.rule (fun mm x hh => ∃ (i : Nat) (sl : Sl), x = (sl, (i : Int), ()) ∧ mm = q.ps.length - i ∧ i ≤ q.ps.length ∧ Ext h hh ∧ (∀ c, sl.blk = some c → h.size ≤ c) ∧ OY A hh sl ((tabsS st).take i)) ?_ ⟨0, ⟨none, 0, 0⟩, rfl, rfl, by omega, Mod.refl, fun c hc => by simp [Sl.blk] at hc, OY.nil⟩
 rintro K1 mm _ hh ⟨i, sl, rfl, rfl, hi, x0h, hbl, qq⟩ hK1
 dsimp only
 refine PIf.intro (fun hq => ?_) (fun hq => ?_)
 ·have hil : i < q.ps.length := by rw [← htl]; simpa using hq
  have his : i < st.ts.length := by omega
  have g1 : q.ps[i]? = some q.ps[i] := List.getElem?_eq_getElem hil
  have g2 : st.ts[i]? = some st.ts[i] := List.getElem?_eq_getElem his
  have g3 : (tabsS st)[i]? = some st.ts[i].2 := by unfold tabsS; rw [List.getElem?_map, g2]; rfl
  have Wh := W.on x0h
  refine Wh.tabs.view.idx g1 fun a _ c => AU.mk (Cells.pt c) ?_
  obtain ⟨lo, hi', T1, t1, t2, t3⟩ := Wh.tab i _ _ g1 g2
  refine ADk T1 t1 t3.tabS fun fv5 h5 it5 x5 s5 => ⟨_, rfl, Sa.mk it5.one.1 ?_⟩
  rw [M.YU] at it5
  have hm := t3.many
  refine OY.add (qq.ext x5) it5 (fun c hc e => ?_) (by omega) (by simp [tabsS]; omega) fun s' h' q' m' b' => ?_
  ·obtain ⟨vs, ov, _, _⟩ := qq
   have hlt := ov.lt e
   have hge := hbl c e
   rcases hc with h1 | h1 | h1
   ·have := t2 c h1.1 h1.2
    have := (W.own c (by rw [this]; decide)).2
    omega
   ·omega
   ·omega
  ·rw [AR (by omega)]
   refine hK1 (q.ps.length - (i + 1)) _ _ (by omega) ⟨i + 1, s', rfl, rfl, hil, ?_, fun c hc => ?_, ?_⟩
   ·exact (x0h.trans x5).then (m'.weak fun c _ hc => .inr (hbl c hc))
   ·rcases b' c hc with h1 | h1
    ·exact hbl c h1
    ·have := x0h.size; have := x5.size; omega
   ·rw [List.take_add_one, g3]
    exact q'
 have hil : i = q.ps.length := by
  have : ¬ i < q.tp.len := by simpa using hq
  omega
 subst hil
 rw [List.take_of_length_le (by simp [tabsS]; omega)] at qq
 clear hK1
 have okT := OkL.tail W.okL
 refine M.AH7 qq.seqs (fun c h => h.elim) (by simp [tabsS]; omega) okT fun fv6 h6 it6 x6 _ => ⟨_, rfl, ?_⟩
 refine M.AF2 (.inr it6) fun fv7 h7 it7 x7 _ => ⟨_, rfl, ?_⟩
 have hll := L.leftlen l
 have hfl := L.frlen l
 have hlv : (Bo (Al (tabsS st))).length ≤ 1099511627776 := by
  have : (Bo (Al (tabsS st))).length = (EQ (tabsS st)).length := rfl
  omega
 refine M.Ql it7 (fun _ _ => rfl) hlv fun s8 h8 o8 b8 x8 => ⟨s8, rfl, ?_⟩
 have x08 : Ext h h8 := ((x0h.trans x6).trans x7).trans x8
 have o8 : Own Af AO h8 s8 (EQ (tabsS st)) := o8
 have W8 := W.on x08
 have sz08 := x08.size
 refine atI (AQ.mk (s := q.np) (AB W8.cell rfl) ?_)
 refine atI (Store.mk1 W8.cell (by simp) fun h9 hb9 m9 s9 => ?_)
 refine atI (Store.mk1 hb9 (by simp) fun h10 hb10 m10 s10 => ?_)
 have hb10 : h10[q.d]? = some (.cells (dbC { q with tp := ⟨none, 0, 0⟩, np := ⟨none, 0, 0⟩ } { st with next := st.next, frm := st.frm } false) De (0, 0)) := by simpa using hb10
 have md10 : Mod (· = q.d) h8 h10 := m9.trans m10
 have W10 := W8.retab (tp := ⟨none, 0, 0⟩) (np := ⟨none, 0, 0⟩) (ps := []) (ts := []) (next := st.next) (frm := st.frm) (S := fun _ => False) hb10 (md10.weak fun c _ hc => .inl hc) Own.nil Own.nil rfl
  (fun c hc => by simp [Sl.blk] at hc) (fun c hc => by simp [Sl.blk] at hc) (fun c h => h.elim) (fun i t p h1 => by simp at h1)
 have k10 : ∀ c, Ic k h8.size ⟨none, 0, 0⟩ ⟨none, 0, 0⟩ (fun _ => False) c = k c := fun c => by
  unfold Ic
  split
  ·rfl
  ·rename_i h1
   simp [Sl.blk]
   exact (by simpa using h1 : k c = 0).symm
 have ek : Ic k h8.size ⟨none, 0, 0⟩ ⟨none, 0, 0⟩ (fun _ => False) = k := funext k10
 rw [ek] at W10
 have mod10 : Mod (fun c => k c ≠ 0) h h10 := (Ext.mod x08).trans (md10.weak fun c _ hc => by rw [hc, W.kd]; decide)
 have v8 := W8.names.view
 have v10 : View EZ h10 q.np (nmS st) := v8.mod md10 fun c hc e => by have := W.kx c hc; rw [e, W.kd] at this; cases this
 have hfree := L.tfree l
 have hnext := l.next
 have hnseg := l.nseg
 have hnotin : st.next ∉ st.ts.map (·.1) := fun hm => by
  obtain ⟨p, hp, e⟩ := List.mem_map.1 hm
  have := L.below p hp
  omega
 refine Join.mk fun K2 hK2 => ?_
 have fin : ∀ (hh : Heap) (q2 : Hp) (k2 : Nat → Nat) (m2 : Bx) (next2 : Nat) (ts2 : List (Nat × List Pr)), DbH g hh q2 k2 { st with ts := ts2, next := next2 } m2 → q2.d = q.d → q2.b = q.b → GQ m m2 →
   (∀ x, x ≠ tfN st.next → ff m2 x = ff m x) → ((ts2 = [] ∧ next2 = st.next ∧ EQ (tabsS st) = [] ∧ ff m2 (tfN st.next) = none) ∨ (ts2 = [(st.next, EQ (tabsS st))] ∧ next2 = st.next + 1 ∧ ff m2 (tfN st.next) = some (Aa (Gs (EQ (tabsS st))), bs0) ∧ Eu (EQ (tabsS st)))) →
   wtF m2.files ≤ wtF m.files + (8400 * B.C + 1100001) → Mod (fun c => k c ≠ 0) h hh → (∀ c, k2 c ≠ 0 → k c ≠ 0 ∨ h.size ≤ c) → View EZ hh q.np (nmS st) → (∀ c, q.np.blk = some c → k2 c = 7) → K2 () hh := by
  intro hh q2 k2 m2 next2 ts2 W2 ed eb sty hff hts hwt hmod hk2 hv h7
  refine hK2 _ _ ?_
  have hne2 : ∀ x, (∀ n, x ≠ tfN n) → ff m2 x = ff m x := fun x hx => hff x (hx _)
  have hD2 : Ap (ff m2) D := L.ok.tput fun x hx => hff x (hx st.next (by rw [L.names]; exact hnotin))
  have hx2 : Wn (ntS { st with ts := ts2, next := next2 }) := by
   have hf1 := L.lfrm
   have hf2 := l.lseg
   rcases hts with ⟨rfl, rfl, _, _⟩ | ⟨rfl, rfl, _, _⟩
   ·exact ⟨by show st.next ≤ _; omega, by show 1 ≤ st.frm ∧ st.frm ≤ _; omega, by simp [ntS], by simp [ntS], by simp [ntS]⟩
   ·exact ⟨by show st.next + 1 ≤ _; omega, by show 1 ≤ st.frm ∧ st.frm ≤ _; omega, by simp [ntS], by simp [ntS], by simp [ntS]⟩
  have hT2 : ∀ n ∈ (ntS { st with ts := ts2, next := next2 }).names, ff m2 (tfN n) = some (Aa (Gs ((fun _ => EQ (tabsS st)) n)), bs0) ∧ Eu ((fun _ => EQ (tabsS st)) n) := fun n hn => by
   rcases hts with ⟨rfl, rfl, _, _⟩ | ⟨rfl, rfl, h1, h2⟩
   ·simp [ntS] at hn
   ·have hn : n = st.next := by simpa [ntS] using hn
    subst hn
    exact ⟨h1, h2⟩
  have hmapn : ∀ D' : BK, D'.L = D.L → D'.ltop = D.ltop → Ac D' = ntS { st with ts := ts2, next := next2 } → D'.T = (fun _ => EQ (tabsS st)) → mapD D' = BH st ∧ JZ D' ≤ c ∧ Cz D' = st.fr := fun D' hL ht hl hTT => by
   have eb := Zg hL ht (by rw [hl]; exact L.frm.symm)
   have ef : Cz D' = st.fr := by unfold Cz; rw [eb]; exact L.fr.symm
   have hcn := L.cnt
   have hpr := l.prs
   refine ⟨?_, ?_, ef⟩
   ·unfold mapD
    rw [ef, hl, hTT]
    rcases hts with ⟨rfl, rfl, h1, _⟩ | ⟨rfl, rfl, _, _⟩
    ·exact V6 W.okL h1
    ·exact Qf W.okL
   ·unfold JZ
    rw [eb, hl, hTT]
    rcases hts with ⟨rfl, rfl, h1, _⟩ | ⟨rfl, rfl, _, _⟩
    ·show 0 + (FX D).flatten.length ≤ c
     omega
    ·show ((EQ (tabsS st)).length + 0) + (FX D).flatten.length ≤ c
     omega
  have htf : ∀ {F' : Fls}, (∀ n, F' (tfN n) ≠ none → ff m2 (tfN n) ≠ none) → ∀ n, F' (tfN n) ≠ none → n < 8 * (age + 1) + 8 := fun hF n hn => by
   by_cases e : n = st.next
   ·omega
   ·have h1 := hF n hn
    rw [hff _ fun e' => e (Gl e')] at h1
    have := L.tlt l h1
    omega
  have hrec : ∀ (D' : BK) (F' : Fls), Ap F' D' → D'.L = D.L → D'.ltop = D.ltop → D'.ntop ≤ max D.ntop (st.nseg + 1) → Ac D' = ntS { st with ts := ts2, next := next2 } → D'.T = (fun _ => EQ (tabsS st)) → (∀ n, F' (tfN n) ≠ none → ff m2 (tfN n) ≠ none) → Rec F' (age + 1) c (BH st) := fun D' F' h1 hL ht hn hl hTT hF => by
   obtain ⟨r1, r2, _⟩ := hmapn D' hL ht hl hTT
   have := l.ltop
   have := l.ntop
   have := L.lfrm
   have := l.lseg
   refine ⟨D', h1, ⟨by omega, by omega, ?_, ?_, ?_, r2, htf hF⟩, r1⟩
   ·rw [hl]; show next2 ≤ _
    rcases hts with ⟨_, rfl, _⟩ | ⟨_, rfl, _⟩ <;> omega
   ·rw [hl]; show st.frm ≤ _; omega
   ·rw [hl]
    rcases hts with ⟨rfl, _⟩ | ⟨rfl, _⟩ <;> simp [ntS]
  rw [← ed]
  have hw2 : wtF m2.files + 1000000 ≤ 8000000000000 := by
   have h1 := B.wt (a := age + 1) hA
   have h2 := B.step (d := 8400 * B.C + 1100001 + 1000000) hw (w' := wtF m2.files + 1000000) (by omega) (by omega)
   omega
  refine AFu (T := fun _ => EQ (tabsS st)) E W2 sty.up hD2 hx2 hT2 ⟨L.nseg, by show st.nseg + 2 ≤ _; omega⟩ (fun n n1 n9 => by rw [hne2 _ fun k => Kg n k]; exact L.nout n n1 n9) hw2
   (fun hfu h3 S3 m3 B3 d3 md3 s3 cr3 fr3 wt3 => ⟨_, rfl, PIf.yes rfl ?_⟩) fun h3 S3 k3 m3 D3 W3 st3 dk3 ln3 T3 L3 lt3 nt3 fr3 out3 wt3 md3 gr3 => ⟨_, rfl, PIf.no rfl ?_⟩
  ·refine Gf W2 B3 (md3.weak fun c _ hc => hc.imp id .inr) s3 fun h4 dn4 B4 md4 s4 => ⟨_, rfl, ?_⟩
   have hmod4 : Mod (fun c => k c ≠ 0) h h4 := hmod.then (md4.weak fun c _ hc => hk2 c hc)
   have hwt3 : wtF m3.files ≤ B.W0 + (age + 1) * B.K := B.step2 hw hwt wt3
   refine H0 h4 m3 ⟨fun hh => hfu (sty.calm hh), by rw [← ed]; exact dn4, ⟨S3, by rw [← eb]; exact B4, fun c hc => ?_⟩, d3, hmod4, fun y hy => ?_, hwt3⟩ fun G cr => ?_
   ·rcases s4 c hc with h1 | h1
    ·exact hk2 c h1
    ·exact .inr (by have := hmod.size; omega)
   ·rw [fr3 y fun n => AAH hy n, hff y (Mj hy _)]
   ·obtain ⟨D', d1, nx⟩ := cr3 G cr
    have hFt : ∀ n, G (tfN n) ≠ none → ff m2 (tfN n) ≠ none := fun n hn => by
     have := cr.some hn
     rwa [fr3 _ fun j e => Kg j n e.symm] at this
    rcases nx.last with ⟨e1, e2⟩ | ⟨e1, e2⟩
    ·obtain ⟨r1, r2⟩ := ACb nx.L nx.ltop e1 e2
     have := l.ltop
     have := l.ntop
     have := L.lfrm
     have := l.lseg
     have := L.next
     have n3 := nx.ntop
     have n4 : ({ st with ts := ts2, next := next2 } : Db).nseg = st.nseg := rfl
     rw [n4] at n3
     exact ⟨D', d1, ⟨by rw [nx.ltop]; omega, by omega, by rw [e1]; omega, by rw [e1, L.frm]; omega, by rw [e1, L.nmle]; omega, by rw [r2]; exact l.prs, htf hFt⟩, by rw [r1]; exact L.map⟩
    ·exact hrec D' G d1 nx.L nx.ltop nx.ntop e1 e2 hFt
  ·
   have hwt3 : ∀ {w}, w ≤ wtF m3.files → w ≤ B.W0 + (age + 1) * B.K := fun hle => B.step2 hw hwt (Nat.le_trans hle wt3)
   have v3 : View EZ h3 q.np (nmS st) := hv.mod md3 fun c hc e => by
    have h1 := h7 c hc
    rcases e with e | e
    ·rw [W2.kb c e] at h1; cases h1
    ·rw [e, W2.kn] at h1; cases h1
   have h73 : ∀ c, q.np.blk = some c → c < hh.size := fun c hc => (W2.own c (by rw [h7 c hc]; decide)).2
   have hnl : q.np.len = st.ts.length := by rw [W.names.len]; simp
   have hmod3 : Mod (fun c => k c ≠ 0) h h3 := hmod.then (md3.weak fun c _ hc => by
    rcases hc with hc | hc
    ·exact hk2 c (by rw [W2.kb c hc]; decide)
    ·exact hk2 c (by rw [hc, W2.kn]; decide))
   have hk3 : ∀ c, k3 c ≠ 0 → k c ≠ 0 ∨ h.size ≤ c := fun c hc => by
    by_cases hlt : c < hh.size
    ·rw [gr3 c hlt] at hc; exact hk2 c hc
    ·exact .inr (by have := hmod.size; omega)
   have fold : ∀ n, (∃ p ∈ st.ts, p.1 = n) → (ff m3 (tfN n)).isSome = true ∧ n ≠ st.next := fun n hn => by
    obtain ⟨p, hp, rfl⟩ := hn
    have hlt := L.below p hp
    have hne : p.1 ≠ st.next := by omega
    have h1 := (L.ok.tab p.1 (by rw [L.names]; exact List.mem_map.2 ⟨p, hp, rfl⟩)).1
    rw [fr3 _ fun j e => Kg j _ e.symm, hff _ fun e => hne (Gl e), h1]
    exact ⟨rfl, hne⟩
   have hnd := L.nd
   obtain ⟨r1, r2, r3⟩ := hmapn D3 L3 lt3 ln3 T3
   have eds : st3.up = st3.up := rfl
   refine Loop.rule (fun mm x hx => ∃ (i : Nat) (S4 : Nat → Prop) (k4 : Nat → Nat) (m4 : Bx), x = ((i : Int), ()) ∧ mm = st.ts.length - i ∧ i ≤ st.ts.length ∧ DbH g hx { q2 with Sb := S4 } k4 { st with ts := ts2, next := next2, nseg := st.nseg + 1 } m4 ∧ GQ m m4 ∧ wtF m4.files ≤ wtF m3.files ∧
     (∀ x, (∀ n ∈ (st.ts.map (·.1)).take i, x ≠ tfN n) → ff m4 x = ff m3 x) ∧ (∀ n ∈ (st.ts.map (·.1)).take i, ff m4 (tfN n) = none) ∧ Mod (fun c => k c ≠ 0) h hx ∧ (∀ c, k4 c ≠ 0 → k c ≠ 0 ∨ h.size ≤ c) ∧ View EZ hx q.np (nmS st) ∧ (∀ c, q.np.blk = some c → k4 c = 7)) ?_
    ⟨0, S3, k3, m3, rfl, rfl, by omega, W3, sty.trans st3, Nat.le_refl _, fun x _ => rfl, by simp, hmod3, hk3, v3, fun c hc => by rw [gr3 c (h73 c hc)]; exact h7 c hc⟩
   rintro K4 mm _ hx ⟨i, S4, k4, m4, rfl, rfl, hi, W4, st4, wt4, f4, f4', mod4, kk4, v4, h74⟩ hK4
   dsimp only
   refine PIf.intro (fun hq => ?_) (fun hq => ?_)
   ·have hil : i < st.ts.length := by have := of_decide_eq_true hq; omega
    have g2 : st.ts[i]? = some st.ts[i] := List.getElem?_eq_getElem hil
    have gn : (st.ts.map (·.1))[i]? = some st.ts[i].1 := by rw [List.getElem?_map, g2]; rfl
    have hmemi : st.ts[i] ∈ st.ts := List.getElem_mem hil
    have hbi := L.below _ hmemi
    refine v4.idx (i := i) (x := (st.ts[i].1 : Int)) (by rw [nmS, List.getElem?_map, g2]; rfl) fun a _ ca => AZ.mk ca.int ?_
    refine atI (AU.mk (AJ W4.cell rfl) ?_)
    refine MI (W4.evn E) (by omega) fun h5 x5 => ⟨_, rfl, ⟨AJ (W4.on x5).cell rfl, ?_⟩⟩
    have W5 := W4.on x5
    refine RY W5.box fun h6 S6 B6 m6 s6 => ⟨_, rfl, ?_⟩
    have hni : st.ts[i].1 ∉ (st.ts.map (·.1)).take i := fun hm => by
     obtain ⟨j, hj, e⟩ := List.getElem_of_mem hm
     have hj' : j < i := by
      have := hj
      simp at this; omega
     rw [List.getElem_take] at e
     have h1 := (List.getElem?_eq_some_iff.1 gn)
     have h2 := (List.getElem_inj (h₀ := by simp; omega) (h₁ := h1.1) hnd).1 (e.trans h1.2.symm)
     omega
    have hsome : (ff m4 (tfN st.ts[i].1)).isSome = true := by
     rw [f4 _ fun n hn e => hni (by rw [Gl e]; exact hn)]
     exact (fold _ ⟨_, hmemi, rfl⟩).1
    have htk : (st.ts.map (·.1)).take (i + 1) = (st.ts.map (·.1)).take i ++ [st.ts[i].1] := by rw [List.take_add_one, gn]; rfl
    have mod6 : Mod (fun c => k c ≠ 0) h h6 := mod4.then (((Ext.mod x5).trans m6).weak fun c _ hc => kk4 c (by rw [W4.kb c hc]; decide))
    rcases NL (k := tfN st.ts[i].1) st4.up hsome with ⟨hf0, e6⟩ | ⟨e6, st6, f6⟩
    ·rw [e6] at B6 ⊢
     refine PIf.yes rfl ?_
     refine Gf (q := { q2 with Sb := S4 }) W5 B6 (m6.weak fun c _ hc => .inl hc) (fun c hc => .inl (s6 c hc)) fun h7' dn7 B7 md7 s7 => ⟨_, rfl, ?_⟩
     have mod7 : Mod (fun c => k c ≠ 0) h h7' := (mod4.trans (Ext.mod x5)).then (md7.weak fun c _ hc => kk4 c hc)
     have fF : ∀ n, ff m4 (tfN n) ≠ none → ff m2 (tfN n) ≠ none := fun n hn => by
      by_cases hm : n ∈ (st.ts.map (·.1)).take i
      ·exact absurd (f4' n hm) hn
      ·rw [f4 _ fun j hj e => hm (by rw [Gl e]; exact hj), fr3 _ fun j e => Kg j n e.symm] at hn
       exact hn
     have dk4 : Ap (ff m4) D3 := dk3.tput fun x hx' => f4 x fun n hn e => hx' n (by
      rw [ln3]
      intro hm
      rcases hts with ⟨rfl, _⟩ | ⟨rfl, _⟩
      ·simp [ntS] at hm
      ·have : n = st.next := by simpa [ntS] using hm
       have hin : n ∈ st.ts.map (·.1) := List.mem_of_mem_take hn
       rw [this] at hin
       exact hnotin hin) e
     refine H0 h7' (Ii m4) ⟨(fun hh => by have := st4.calm hh; rw [hf0] at this; cases this), by rw [← ed]; exact dn7, ⟨S6, by rw [← eb]; exact B7, fun c hc => ?_⟩, rfl, mod7, fun y hy => ?_, hwt3 wt4⟩ fun G cr => ?_
     ·rcases s7 c hc with h1 | h1
      ·exact kk4 c h1
      ·exact .inr (by have := (mod4.trans (Ext.mod x5)).size; omega)
     ·rw [ABX, f4 y fun n _ => Mj hy n, fr3 y fun n => AAH hy n, hff y (Mj hy _)]
     ·exact hrec D3 G (dk4.crash cr) L3 lt3 nt3 ln3 T3 fun n hn => fF n (cr.some hn)
    ·rw [e6]
     refine PIf.no rfl ?_
     have W6 := W5.boxed (j := 2) (st' := { st with ts := ts2, next := next2, nseg := st.nseg + 1 }) B6 (m6.weak fun c _ hc => .inl hc) (fun c hc => .inl (s6 c hc)) rfl rfl rfl rfl (.inl ⟨by decide, rfl, rfl⟩) (.inl ⟨by decide, rfl⟩)
     have wt6 := UF (m := m4) (tfN st.ts[i].1)
     rw [AR (by omega)]
     refine hK4 (st.ts.length - (i + 1)) _ _ (by omega) ⟨i + 1, S6, _, _, rfl, rfl, hil, W6, st4.trans st6, Nat.le_trans wt6 wt4, fun x hx' => ?_, fun n hn => ?_, mod6, fun c hc => ?_, ?_, fun c hc => ?_⟩
     ·rw [f6, if_neg (hx' _ (by rw [htk]; simp))]
      exact f4 x fun n hn => hx' n (by rw [htk]; exact List.mem_append.2 (.inl hn))
     ·rw [f6]
      split
      ·rfl
      ·rename_i hne
       rw [htk] at hn
       rcases List.mem_append.1 hn with hn | hn
       ·exact f4' n hn
       ·exact absurd (by rw [List.mem_singleton.1 hn]) hne
     ·by_cases hlt : c < h5.size
      ·rw [EH hlt] at hc; exact kk4 c hc
      ·exact .inr (by have := (mod4.trans (Ext.mod x5)).size; omega)
     ·exact (v4.ext x5).mod m6 fun c hc e => by
       have h1 := h74 c hc
       rw [W4.kb c e] at h1; cases h1
     ·have hlt : c < h5.size := by
       have := (W4.own c (by rw [h74 c hc]; decide)).2
       have := x5.size; omega
      rw [EH hlt]; exact h74 c hc
   ·have hil : i = st.ts.length := by
     have : ¬ (i : Int) < ((q.np.len : Nat) : Int) := of_decide_eq_false hq
     omega
    subst hil
    rw [List.take_of_length_le (by simp)] at f4 f4'
    have hgone : ∀ n, ff m4 (tfN n) ≠ none → n = st.next ∧ ff m2 (tfN n) ≠ none := fun n hn => by
     by_cases hm : n ∈ st.ts.map (·.1)
     ·exact absurd (f4' n hm) hn
     ·rw [f4 _ fun j hj e => hm (by rw [Gl e]; exact hj), fr3 _ fun j e => Kg j n e.symm] at hn
      refine ⟨?_, hn⟩
      by_cases e : n = st.next
      ·exact e
      ·rw [hff _ fun e' => e (Gl e')] at hn
       exact absurd (L.clean n hn) hm
    have fl : ∀ n, ff m4 (fnB nl n) = ff m (fnB nl n) := fun n => by
     rw [f4 _ fun j _ => Iy n j, fr3 _ fun j => Qa n j, hff _ (Iy n _)]
    have dk4 : Ap (ff m4) D3 := dk3.tput fun x hx' => f4 x fun n hn e => hx' n (by
     rw [ln3]
     intro hm
     rcases hts with ⟨rfl, _⟩ | ⟨rfl, _⟩
     ·simp [ntS] at hm
     ·have : n = st.next := by simpa [ntS] using hm
      rw [this] at hn
      exact hnotin hn) e
    have tabs4 : ∀ p ∈ ts2, D3.T p.1 = p.2 := fun p hp => by
     rw [T3]
     rcases hts with ⟨rfl, _⟩ | ⟨rfl, _⟩
     ·cases hp
     ·rw [List.mem_singleton.1 hp]
    have below4 : ∀ p ∈ ts2, p.1 < next2 := fun p hp => by
     rcases hts with ⟨rfl, _⟩ | ⟨rfl, rfl, _⟩
     ·cases hp
     ·rw [List.mem_singleton.1 hp]; exact Nat.lt_succ_self _
    have clean4 : ∀ n, ff m4 (tfN n) ≠ none → n ∈ ts2.map (·.1) := fun n hn => by
     obtain ⟨e, h2⟩ := hgone n hn
     rcases hts with ⟨rfl, _, _, h3⟩ | ⟨rfl, _⟩
     ·rw [e] at h2; exact absurd h3 h2
     ·simp [e]
    have L4 : DX (ff m4) { st with ts := ts2, next := next2, nseg := st.nseg + 1 } D3 :=
     ⟨dk4, by rw [ln3]; rfl, tabs4, by rw [ln3]; rfl, by rw [ln3]; exact Nat.le_refl _, below4, r3.symm, fun n n1 n9 hne => by rw [fl]; exact L.lout n n1 n9 hne, fun hm => by rw [fl, L3]; exact L.lcur hm,
      fun n n1 n9 => by rw [f4 _ fun j _ => Kg n j]; exact out3 n n1 n9, L.lfrm, by show 1 ≤ st.nseg + 1; omega, clean4⟩
    have lim4 : Ob { st with ts := ts2, next := next2, nseg := st.nseg + 1 } D3 (age + 1) c := by
     have := l.lseg
     have := l.ltop
     have := l.ntop
     have n4 : ({ st with ts := ts2, next := next2 } : Db).nseg = st.nseg := rfl
     rw [n4] at nt3
     refine ⟨by show st.lseg ≤ _; omega, by show st.nseg + 1 ≤ _; omega, ?_, ?_, r2, by rw [lt3]; omega, by omega⟩
     ·show next2 ≤ _
      rcases hts with ⟨_, rfl, _⟩ | ⟨_, rfl, _⟩ <;> omega
     ·show ts2.length ≤ _
      rcases hts with ⟨rfl, _⟩ | ⟨rfl, _⟩ <;> simp
    refine H1 hx { q2 with Sb := S4 } k4 _ m4 D3 ed eb ⟨W4, st4.up, L4, lim4, hwt3 wt4, hc⟩ st4 rfl ?_ ?_ (fun y hy => ?_) mod4 kk4
    ·rw [← r1]; exact L4.map.symm
    ·show ts2.length ≤ 1
     rcases hts with ⟨rfl, _⟩ | ⟨rfl, _⟩ <;> simp
    ·rw [f4 y fun n _ => Mj hy n, fr3 y fun n => AAH hy n, hff y (Mj hy _)]
 refine PIf.intro (fun hq => ?_) (fun hq => ?_)
 ·have hne : EQ (tabsS st) ≠ [] := fun e => by
   have h1 := of_decide_eq_true hq
   have h2 := o8.len
   rw [e] at h2
   simp at h2
   omega
  have T8 := AHt (B := B) W L l hc hne
  have tl := AFL T8
  refine atI (AZ.mk (AB W10.cell rfl) ?_)
  have o10 : View Af h10 s8 (EQ (tabsS st)) := o8.view.mod md10 fun c hc e => by have := b8 c hc; have := W.dlt; have := (x0h.trans x6).size; have := x7.size; omega
  have tl2 : (Gs (EQ (tabsS st))).length ≤ 8400 * B.C + 1100000 := by omega
  refine AIv (q := { q with tp := ⟨none, 0, 0⟩, np := ⟨none, 0, 0⟩, ps := [] }) (n := st.next) E W10 hd T8 o10 (fun c hc => by have := o8.lt hc; have := md10.size; omega) (by omega) hfree (by have := AI5 tl2 hw hW8 hBC; exact this) (fun hfu h11 S11 m11 B11 d11 md11 s11 f11 wt11 => ⟨_, _, rfl, PIf.yes rfl ?_⟩) fun h11 S11 k11 m11 t lo hi W11 st11 f11 wt11 T11 lo11 hi11 kz11 md11 gr11 => ⟨_, _, rfl, PIf.no rfl ?_⟩
  ·refine Gf (q := { q with tp := ⟨none, 0, 0⟩, np := ⟨none, 0, 0⟩, ps := [] }) W10 B11 (md11.weak fun c _ hc => .inl hc) s11 fun h12 dn12 B12 md12 s12 => ⟨_, rfl, ?_⟩
   have hf11 : Ap (ff m11) D ∧ Xl (ff m11) (age + 1) c (BH st) := by
    refine L.recT (l.mono (Nat.le_succ _) (Nat.le_refl _)) (fun x hx => f11 x (hx _ hnotin)) fun n hn => ?_
    by_cases e : n = st.next
    ·omega
    ·rw [f11 _ fun e' => e (Gl e')] at hn
     have := L.tlt l hn; omega
   have wtm : wtF m11.files ≤ wtF m.files + (8400 * B.C + 1100001) := by omega
   exact H0 h12 m11 ⟨hfu, dn12, ⟨S11, B12, fun c hc => (s12 c hc).imp id fun h => by have := mod10.size; omega⟩, d11, mod10.then (md12.weak fun c _ hc => .inl hc), fun y hy => f11 y (Mj hy _), B.step2 hw wtm (Nat.le_add_right _ _)⟩ hf11.2
  ·refine New.mk fun h12 _ hb12 x12 s12' => ?_
   have W12 := W11.on x12
   refine atI (AZ.mk (AB W12.cell rfl) (New.mk fun h13 _ hb13 x13 s13 => ?_))
   have W13 := W12.on x13
   refine atI (Store.mk1 W13.cell (by simp) fun h14 hb14 m14 s14 => atI (Store.mk1 hb14 (by simp) fun h15 hb15 m15 s15 => ?_))
   refine atI (AZ.mk (AB hb15 rfl) (atI (Store.mk1 hb15 (by simp) fun h16 hb16 m16 s16 => ?_)))
   have ew : IntKind.wrap .i64 (((st.next : Nat) : Int) + (1 : Int)) = ((st.next + 1 : Nat) : Int) := AR (by omega)
   have md16 : Mod (· = q.d) h13 h16 := (m14.trans m15).trans m16
   have hb12' : h16[h11.size]? = some (.cells #[BC t] Aq (0, 0)) := md16.blk (x13.blk hb12 fun h => h) (by have := W11.dlt; show ¬ _ = q.d; have e : (q.d : Nat) < h11.size := this; omega)
   have hb13' : h16[h12.size]? = some (.cells #[.int .i64 (st.next : Int)] BO (0, 0)) := md16.blk hb13 (by have := W12.dlt; have e : (q.d : Nat) < h12.size := this; show ¬ _ = q.d; omega)
   have ot : Own PtE Aq h16 ⟨some ⟨h11.size, 0, none⟩, 1, 1⟩ [t] := Own.lit (l := [t]) hb12' rfl (by simp [maxLen])
   have on : Own EZ BO h16 ⟨some ⟨h12.size, 0, none⟩, 1, 1⟩ (([(st.next, EQ (tabsS st))] : List (Nat × List Pr)).map fun p => (p.1 : Int)) := Own.lit (l := [((st.next : Nat) : Int)]) hb13' rfl (by simp [maxLen])
   have sz11 := md11.size
   have kz : ∀ c, h11.size ≤ c → k11 c = 0 := fun c hc => kz11 c (by have := T11.tlt; omega)
   have W16 := W13.retab (h' := h16) (tp := ⟨some ⟨h11.size, 0, none⟩, 1, 1⟩) (np := ⟨some ⟨h12.size, 0, none⟩, 1, 1⟩) (ps := [t]) (ts := [(st.next, EQ (tabsS st))]) (next := st.next + 1) (frm := st.frm) (S := fun c => lo ≤ c ∧ c < hi)
    (by rw [ew] at hb16; simpa [dbC] using hb16) (md16.weak fun c _ hc => .inl hc) ot on rfl
    (fun c hc => .inr (by
     have e : h11.size = c := by simpa [Sl.blk] using hc
     subst e
     have hg := W11.ext.size
     refine ⟨kz _ (Nat.le_refl _), hg, by simp [Sl.blk]; omega, by omega⟩))
    (fun c hc => .inr (by
     have e : h12.size = c := by simpa [Sl.blk] using hc
     subst e
     have hg := W12.ext.size
     refine ⟨kz _ (by omega), hg, by simp [Sl.blk]; omega, by omega⟩))
    (fun c hc => ⟨by have := W10.ext.size; omega, by have := x12.size; have := x13.size; have := md16.size; omega⟩)
    (fun i t' p h1 h2 => by
     have hi0 : i = 0 := by
      have := (List.getElem?_eq_some_iff.1 h1).1
      simpa using this
     subst hi0
     simp only [List.getElem?_cons_zero, Option.some.injEq] at h1 h2
     subst h1 h2
     refine .inr ⟨lo, hi, (T11.ext (x12.trans x13)).mod md16 (fun c c1 c2 e => ?_), by have := x12.size; have := x13.size; have := md16.size; omega, fun c c1 c2 => ⟨⟨c1, c2⟩, kz11 c c1⟩, T8⟩
     have := W10.dlt
     have e2 : (q.d : Nat) < h10.size := this
     omega)
   have mod16 : Mod (fun c => k c ≠ 0) h h16 := by
    refine (mod10.trans ((md11.weak fun c _ hc => ?_))).trans ((Ext.mod (x12.trans x13)).trans (md16.weak fun c _ hc => ?_))
    ·rw [W.kb c hc]; decide
    ·rw [hc, W.kd]; decide
   have hlt7 : ∀ c, q.np.blk = some c → c < h10.size ∧ k c = 7 := fun c hc => ⟨by have := W.names.lt hc; have := mod10.size; omega, W.kx c hc⟩
   refine fin h16 _ _ m11 (st.next + 1) _ W16 rfl rfl st11 (fun x hx => by rw [f11, if_neg hx]) (.inr ⟨rfl, rfl, by rw [f11, if_pos rfl], T8⟩) (by omega) mod16 (fun c hc => ?_) ?_ fun c hc => ?_
   ·by_cases hlt : c < h.size
    ·left
     intro h0
     have hlt10 : c < h10.size := by have := mod10.size; omega
     have e1 : k11 c = 0 := by rw [gr11 c hlt10]; exact h0
     have hlt11 := hlt10
     apply hc
     unfold Ic
     rw [if_neg (by simp [e1]), if_neg (by simp [Sl.blk]; omega), if_neg (by simp [Sl.blk]; have := x12.size; omega), if_neg (by omega)]
    ·exact .inr (by omega)
   ·refine ((v10.mod md11 fun c hc e => ?_).ext (x12.trans x13)).mod md16 fun c hc e => ?_
    ·have := (hlt7 c hc).2
     rw [W.kb c e] at this; cases this
    ·have := (hlt7 c hc).2
     rw [e, W.kd] at this; cases this
   ·obtain ⟨h1, h2⟩ := hlt7 c hc
    unfold Ic
    rw [gr11 c h1, h2]; rfl
 ·have he : EQ (tabsS st) = [] := by
   have h1 := of_decide_eq_false hq
   have h2 := o8.len
   exact List.eq_nil_of_length_eq_zero (by omega)
  refine fin h10 _ k m st.next [] W10 rfl rfl (GQ.refl hd) (fun x _ => rfl) (.inl ⟨rfl, rfl, he, hfree⟩) (by omega) mod10 (fun c hc => .inl hc) v10 fun c hc => W.kx c hc
end
end Go.Lf.G

