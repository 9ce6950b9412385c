/-
 Contract: what is in memory goes into a table (chapter 9).
-/
import Derived.Test.YtdmlhpjdmgaggaaGreatDoorLfZ10
set_option linter.unusedVariables false
set_option linter.unusedSimpArgs false
set_option maxRecDepth 100000
set_option linter.unusedVariables false
set_option linter.unusedSimpArgs false
namespace Go.Lf.G
open Go
open M (Sorted Ah Df BL Al BF CZ Au OkL Bo)
section
variable {A : Amb} {B : Bud} {g h : Heap} {q : Hp} {k : Nat → Nat} {st : Db} {m : Bx} {D : BK} {age c : Nat} {R : Value → Heap → Prop}
theorem DX.noL {F : Fls} (L : DX F st D) (l : Ob st D age c) (hA : age ≤ 100000) {n : Nat} (hn : st.lseg < n) : D.L n = [] := by
 by_cases h9 : n ≤ 99999999
 ·exact L.ok.nonL h9 (L.lout n (by omega) h9 fun _ => by omega)
 ·exact L.ok.farL (.inr (by have := l.ltop; omega))
theorem AG2 {F : Fls} {made : Bool} {m : Bx} {s : Nat} (hd : m.down = false) (hc : made = true → ∃ y, ff m (fnB nl s) = some (y, bs0)) : (m.fuel = 0 ∧ Ik m (fnB nl s) made = (30, Ii m)) ∨ ((Ik m (fnB nl s) made).1 = 0 ∧ GQ m (Ik m (fnB nl s) made).2 ∧ ∀ x, ff (Ik m (fnB nl s) made).2 x = ff m x) := by
 cases made with
 | false => exact .inr ⟨rfl, GQ.refl hd, fun x => rfl⟩
 | true =>
  obtain ⟨y, hy⟩ := hc rfl
  rcases Ko hd hy with h1 | ⟨h1, h2, h3⟩
  ·exact .inl h1
  ·refine .inr ⟨h1, h2, fun x => ?_⟩
   show ff (EO m (fnB nl s)).2 x = _
   rw [h3]
   split
   ·rename_i e
    rw [e, hy, NT]
   ·rfl
theorem AHc {m : Bx} (g : DK m) (k : ByteArray) (made : Bool) : wtF (Ik m k made).2.files ≤ wtF m.files := by
 cases made with
 | false => exact Nat.le_refl _
 | true => exact Sk g k
theorem AJG {w w' x : Nat} (h1 : w' ≤ w + x) : w' + 1000000 ≤ w + (x + 1000000) := by
 rw [← Nat.add_assoc]
 exact Nat.add_le_add_right h1 _
theorem AHy (C : Nat) : 8400 * C + 1100001 + 1000000 ≤ 20000 * C + 10000000 := by omega
theorem ACA (E : Evn g) (S : BA B g h q k st m D age c) (hA : age + 2 ≤ B.A)
  (H0 : ∀ h' m', AGV B h h' q k m m' (age + 2) → Xl (ff m') (age + 2) c (BH st) → R (.int .i64 30) h')
  (H1 : ∀ h' q' k' st' m' D', q'.d = q.d → q'.b = q.b → BA B g h' q' k' st' m' D' (age + 2) c → GQ m m' → st'.fr = [] → BH st' = BH st → (st'.ts.length ≤ 3 ∨ st'.ts.length = st.ts.length) → (∀ y, ¬ Mine y → ff m' y = ff m y) → Mod (fun c => k c ≠ 0) h h' → (∀ c, k' c ≠ 0 → k c ≠ 0 ∨ h.size ≤ c) → R (.int .i64 0) h') :
  AA A P E5 #[BC q.d] h R := by
 have S0 := S
 obtain ⟨W, hd, L, l, hw, hc⟩ := S
 have hBA := B.hA
 have hBC := B.hC
 have hW8 := B.wt (a := age) (by omega)
 have hfl := L.frlen l
 have hnext := l.next
 have hnseg := l.nseg
 have hlseg := l.lseg
 have hltop := l.ltop
 have hntop := l.ntop
 have hlfrm := L.lfrm
 have hcnt := l.cnt
 have hfree := L.tfree l
 have hnotin : st.next ∉ st.ts.map (·.1) := fun hm => by
  obtain ⟨p, hp, e⟩ := List.mem_map.1 hm
  have := L.below p hp
  omega
 refine OD ?_
 unfold II
 refine Join.mk fun K hK => SA W (hK _ _ (PIf.no rfl ?_))
 refine atI (AU.mk (AB W.cell rfl) ?_)
 refine M.AFy W.fresh ⟨_, _, rfl, ?_⟩
 refine PIf.intro (fun hq => ?_) (fun hq => ?_)
 ·have h1 : st.fr = [] := List.eq_nil_of_length_eq_zero (by have : ((st.fr.length : Nat) : Int) = 0 := (by simpa using hq); omega)
  exact H1 h q k st m D rfl rfl (S0.age (by omega)) (GQ.refl hd) h1 rfl (.inr rfl) (fun _ _ => rfl) Mod.refl (fun c hc => .inl hc)
 have hne : st.fr ≠ [] := fun e => by
  rw [e] at hq; cases hq
 have T8 : Eu st.fr := ⟨hne, fun x hx => AF8 (W.fresh.good x hx), W.fresh.sorted, by omega⟩
 have tl := AFL T8
 have tl2 : (Gs st.fr).length ≤ 8400 * B.C + 1100000 := by omega
 refine atI (AZ.mk (AB W.cell rfl) (atI (AU.mk (AB W.cell rfl) ?_)))
 refine M.ACt W.fresh fun fv h3 it3 x3 s3 => ⟨_, rfl, ⟨AB (W.on x3).cell rfl, ?_⟩⟩
 rw [M.YU] at it3
 refine M.Ql it3 (fun _ _ => rfl) (by omega) fun s4 h4 o4 b4 x4 => ⟨s4, rfl, ?_⟩
 have x04 := x3.trans x4
 have W4 := W.on x04
 have sz04 := x04.size
 refine ⟨AB W4.cell rfl, ?_⟩
 refine AIv (n := st.next) E W4 hd T8 o4.view (fun c hc => o4.lt hc) (by omega) hfree (AI5 tl2 hw hW8 hBC) (fun hfu h5 S5 m5 B5 d5 md5 s5 f5 wt5 => ⟨_, _, rfl, PIf.yes rfl ?_⟩) fun h5 S5 k5 m5 t lo hi W5 st5 f5 wt5 T5 lo5 hi5 kz5 md5 gr5 => ⟨_, _, rfl, PIf.no rfl ?_⟩
 ·refine Gf W4 B5 (md5.weak fun c _ hc => .inl hc) s5 fun h6 dn6 B6 md6 s6 => ⟨_, rfl, ?_⟩
  have hf5 := L.recT (F' := ff m5) (l.mono (Nat.le_add_right age 2) (Nat.le_refl _)) (fun x hx => f5 x (hx _ hnotin)) fun n hn => by
   by_cases e : n = st.next
   ·omega
   ·rw [f5 _ fun e' => e (Gl e')] at hn
    have := L.tlt l hn; omega
  have wtm : wtF m5.files ≤ wtF m.files + (8400 * B.C + 1100001) := by omega
  have h2 := B.step2 hw wtm (Nat.le_add_right _ _)
  exact H0 h6 m5 ⟨hfu, dn6, ⟨S5, B6, fun c hc => (s6 c hc).imp id fun h => by omega⟩, d5, (Ext.mod x04).trans md6, fun y hy => f5 y (Mj hy _), Nat.le_trans h2 (Nat.add_le_add_left (Nat.mul_le_mul_right _ (Nat.le_succ _)) _)⟩ hf5.2
 have sz5 := md5.size
 have htlt := T5.tlt
 have mod5 : Mod (fun c => k c ≠ 0) h h5 := (Ext.mod x04).trans (md5.weak fun c _ hc => by rw [W.kb c hc]; decide)
 have f5' : ∀ x, x ≠ tfN st.next → ff m5 x = ff m x := fun x hx => by rw [f5, if_neg hx]
 have wt5' : wtF m5.files ≤ wtF m.files + (8400 * B.C + 1100001) := by omega
 have fl5 : ∀ n, ff m5 (fnB nl n) = ff m (fnB nl n) := fun n => f5' _ (Iy n _)
 have ht5 : ∀ {F' : Fls}, (∀ n, F' (tfN n) ≠ none → ff m5 (tfN n) ≠ none) → ∀ n, F' (tfN n) ≠ none → n < 8 * (age + 1) + 8 := fun hF n hn => by
  by_cases e : n = st.next
  ·omega
  ·have h1 := hF n hn
   rw [f5' _ fun e' => e (Gl e')] at h1
   have := L.tlt l h1
   omega
 refine atI (AU.mk (AB W5.cell rfl) ?_)
 have hsl := AG2 (F := ff m) (made := st.lmade) (s := st.lseg) st5.up fun hm => ⟨_, by rw [fl5]; exact L.lcur hm⟩
 refine RN (W5.evn E) W5.log W5.box W5.nSl (by decide) (by omega) (fun hne7 h7 B7 L7 m7 => ⟨_, _, rfl, ?_⟩) fun heq7 h7 B7 L7 m7 => ⟨_, _, rfl, ?_⟩
 ·rcases hsl with ⟨hf0, e7⟩ | ⟨e7, _, _⟩
  ·rw [e7] at B7 ⊢
   refine PIf.yes rfl ?_
   refine Gf (q := { q with Sb := S5 }) W5 B7 (m7.weak fun c _ hc => .inl hc) (fun c hc => .inl hc) fun h8 dn8 B8 md8 s8 => ⟨_, rfl, ?_⟩
   have hf5 := L.recT (F' := ff (Ii m5)) (l.mono (Nat.le_add_right age 2) (Nat.le_refl _)) (fun x hx => f5' x (hx _ hnotin)) fun n hn => by
    have := ht5 (F' := ff (Ii m5)) (fun n hn => hn) n hn
    omega
   have h2 := B.step2 hw wt5' (Nat.le_add_right _ _)
   refine H0 h8 (Ii m5) ⟨(fun hh => by have := st5.calm hh; rw [hf0] at this; cases this), dn8, ⟨S5, B8, fun c hc => ?_⟩, rfl, mod5.then (md8.weak fun c _ hc => ?_), fun y hy => f5' y (Mj hy _), Nat.le_trans h2 (Nat.add_le_add_left (Nat.mul_le_mul_right _ (Nat.le_succ _)) _)⟩ hf5.2
   ·rcases s8 c hc with h1 | h1
    ·by_cases hlt : c < h4.size
     ·rw [gr5 c hlt] at h1; exact .inl h1
     ·exact .inr (by omega)
    ·exact .inr (by omega)
   ·by_cases hlt : c < h4.size
    ·rw [gr5 c hlt] at hc; exact .inl hc
    ·exact .inr (by omega)
  ·exact absurd e7 hne7
 refine PIf.no rfl ?_
 rcases hsl with ⟨hf0, e7⟩ | ⟨e7, st7, f7⟩
 ·rw [e7] at heq7; cases heq7
 have wt7 := AHc W5.box.good (fnB nl st.lseg) st.lmade
 have W7 := W5.boxed (j := 3) (st' := { st with lseg := st.lseg + 1, lmade := false }) B7 (m7.weak fun c _ hc => hc.imp id fun h => .inl ⟨rfl, h⟩) (fun c hc => .inl hc) rfl rfl rfl rfl (.inr L7) (.inl ⟨by decide, rfl⟩)
 generalize (Ik m5 (fnB nl st.lseg) st.lmade).2 = mm at *
 have sz7 := m7.size
 have k7 : ∀ c, c < h5.size → Hz k5 h5.size S5 2 c = k5 c := fun c hc => EH hc
 generalize Hz k5 h5.size S5 2 = kk at *
 have mod7 : Mod (fun c => k c ≠ 0) h h7 := mod5.then (m7.weak fun c _ hc => by
  have h1 : k5 c ≠ 0 := by
   rcases hc with hc | hc
   ·rw [W5.kb c hc]; decide
   ·rw [hc, W5.kl]; decide
  by_cases hlt : c < h4.size
  ·rw [gr5 c hlt] at h1; exact .inl h1
  ·exact .inr (by omega))
 have kk0 : ∀ c, kk c ≠ 0 → k c ≠ 0 ∨ h.size ≤ c := fun c hc => by
  by_cases hlt : c < h4.size
  ·rw [k7 c (by omega), gr5 c hlt] at hc; exact .inl hc
  ·exact .inr (by omega)
 have kkb : ∀ c, h7.size ≤ c → kk c = 0 := fun c hc => Decidable.byContradiction fun h => by
  have := (W7.own c h).2
  omega
 have kkz : ∀ c, lo ≤ c → c < hi → kk c = 0 := fun c c1 c2 => by rw [k7 c (by omega)]; exact kz5 c c1
 have fmm : ∀ x, ff mm x = ff m5 x := f7
 have fm : ∀ x, x ≠ tfN st.next → ff mm x = ff m x := fun x hx => (fmm x).trans (f5' x hx)
 have fmt : ff mm (tfN st.next) = some (Aa (Gs st.fr), bs0) := by rw [fmm, f5, if_pos rfl]
 have stm : GQ m mm := st5.trans st7
 have wtm : wtF mm.files ≤ wtF m.files + (8400 * B.C + 1100001) := Nat.le_trans wt7 wt5'
 have hDm : Ap (ff mm) D := L.ok.tput fun x hx => fm x (hx st.next (by rw [L.names]; exact hnotin))
 have htm : ∀ {F' : Fls}, (∀ n, F' (tfN n) ≠ none → ff mm (tfN n) ≠ none) → ∀ n, F' (tfN n) ≠ none → n < 8 * (age + 1) + 8 := fun hF n hn => ht5 (F' := ff mm) (fun n hn => by rw [← fmm]; exact hn) n (hF n hn)
 have told : ∀ (hh : Heap) (q2 : Hp) (k2 : Nat → Nat), DbH g hh q2 k2 { st with ts := (st.next, st.fr) :: st.ts, next := st.next + 1, frm := st.lseg + 1, lseg := st.lseg + 1, lmade := false } mm → q2.d = q.d → q2.b = q.b → Mod (fun c => k c ≠ 0) h hh → (∀ c, k2 c ≠ 0 → k c ≠ 0 ∨ h.size ≤ c) →
   AA A P Fb #[BC q2.d] hh fun v7 h12 => ∃ t98 : Int, v7 = .int .i64 t98 ∧ (
         PIf (t98 != (0 : Int)) (
          AA A P Bb #[BC q2.d, .int .i64 t98] h12 fun v8 h13 => ∃ t103 : Int, v8 = .int .i64 t103 ∧ (
          R (.int .i64 t103) h13)) (
          AA A P KE #[] h12 fun v9 h14 => ∃ t105 : Option Addr, v9 = .pointer t105 ∧ (
          At (some (⟨q2.d, 0, none⟩ : Addr)) fun a7 =>
          Store h14 (a7.add 3) (.pointer t105) fun h15 =>
          At (some (⟨q2.d, 0, none⟩ : Addr)) fun a8 =>
          AU h15 (a8.add 1) fun t111 =>
          AA A P Ew #[.pointer t111, .int .i64 (st.lseg : Int)] h15 fun v10 h16 => ∃ t113 : Int, v10 = .int .i64 t113 ∧ (
          PIf (t113 != (0 : Int)) (
           AA A P Bb #[BC q2.d, .int .i64 t113] h16 fun v11 h17 => ∃ t118 : Int, v11 = .int .i64 t118 ∧ (
           R (.int .i64 t118) h17)) (
           At (some (⟨q2.d, 0, none⟩ : Addr)) fun a9 =>
           AQ h16 (a9.add 4) fun t122 =>
           PIf (decide (((t122.len : Nat) : Int) ≥ (4 : Int))) (
            AA A P DU #[BC q2.d] h16 fun v12 h18 => ∃ t126 : Int, v12 = .int .i64 t126 ∧ (
            R (.int .i64 t126) h18)) (
            R (.int .i64 0) h16)))))) := by
  intro hh q2 k2 W2 ed eb hmod hk2
  have hx2 : Wn (ntS { st with ts := (st.next, st.fr) :: st.ts, next := st.next + 1, frm := st.lseg + 1, lseg := st.lseg + 1, lmade := false }) := by
   refine ⟨by show st.next + 1 ≤ _; omega, by show 1 ≤ st.lseg + 1 ∧ st.lseg + 1 ≤ _; omega, ?_, fun n hn => ?_, ?_⟩
   ·show ((st.next, st.fr) :: st.ts |>.map (·.1)).length ≤ _
    simp; omega
   ·show n < st.next + 1
    rcases List.mem_cons.1 hn with rfl | hn
    ·exact Nat.lt_succ_self _
    ·obtain ⟨p, hp, rfl⟩ := List.mem_map.1 hn
     have := L.below p hp; omega
   ·exact List.nodup_cons.2 ⟨hnotin, L.nd⟩
  have hT2 : ∀ n ∈ st.next :: st.ts.map (·.1), ff mm (tfN n) = some (Aa (Gs ((Hl D.T st.next st.fr) n)), bs0) ∧ Eu ((Hl D.T st.next st.fr) n) := fun n hn => by
   by_cases e : n = st.next
   ·subst e; rw [CO]; exact ⟨fmt, T8⟩
   ·rw [Da e, fm _ fun e' => e (Gl e')]
    rcases List.mem_cons.1 hn with h1 | h1
    ·exact absurd h1 e
    ·exact L.ok.tab n (by rw [L.names]; exact h1)
  have hTl : ∀ D' : BK, D'.T = Hl D.T st.next st.fr → (st.next :: st.ts.map (·.1)).map D'.T = st.fr :: tabsS st := fun D' hT => by
   rw [List.map_cons, hT, CO]
   congr 1
   rw [← L.tabsS, L.names]
   refine List.map_congr_left fun n hn => Da fun e => hnotin (e ▸ hn)
  have hmapn : ∀ D' : BK, D'.L = D.L → D'.ltop = D.ltop → Ac D' = ntS { st with ts := (st.next, st.fr) :: st.ts, next := st.next + 1, frm := st.lseg + 1, lseg := st.lseg + 1, lmade := false } → D'.T = Hl D.T st.next st.fr → mapD D' = BH st ∧ JZ D' ≤ c ∧ Cz D' = [] := fun D' hL ht hl hT => by
   have eb := AGx (f := st.lseg + 1) hL ht (by rw [hl]; rfl) fun n hn => L.noL l (by omega) (by omega)
   have ef : Cz D' = [] := by unfold Cz; rw [eb]; rfl
   have en : (Ac D').names = st.next :: st.ts.map (·.1) := by rw [hl]; rfl
   refine ⟨?_, ?_, ef⟩
   ·unfold mapD
    rw [ef, en, hTl D' hT]
    exact AB6 W.okL
   ·unfold JZ
    rw [eb, en]
    have e2 : ((st.next :: st.ts.map (·.1)).map fun n => (D'.T n).length) = ((st.next :: st.ts.map (·.1)).map D'.T).map List.length := by rw [List.map_map]; rfl
    rw [e2, hTl D' hT]
    have : ((st.fr :: tabsS st).map List.length).sum = st.fr.length + M.total (tabsS st) := by simp [M.total]
    rw [this]
    simpa using hfl
  have hrec : ∀ (D' : BK) (F' : Fls), Ap F' D' → D'.ltop = D.ltop → D'.ntop ≤ max D.ntop (st.nseg + 1) → Ac D' = ntS { st with ts := (st.next, st.fr) :: st.ts, next := st.next + 1, frm := st.lseg + 1, lseg := st.lseg + 1, lmade := false } → mapD D' = BH st → JZ D' ≤ c → (∀ n, F' (tfN n) ≠ none → ff mm (tfN n) ≠ none) → Rec F' (age + 1) c (BH st) := fun D' F' h1 ht hn hl hM hC hF => by
   refine ⟨D', h1, ⟨by omega, by omega, ?_, ?_, ?_, hC, htm hF⟩, hM⟩
   ·rw [hl]; show st.next + 1 ≤ _; omega
   ·rw [hl]; show st.lseg + 1 ≤ _; omega
   ·rw [hl]; show ((st.next, st.fr) :: st.ts |>.map (·.1)).length ≤ _; simp; omega
  have hw2 : wtF mm.files + 1000000 ≤ 8000000000000 := by
   have h1 := B.wt (a := age + 1) (by omega)
   have h2 : wtF mm.files + 1000000 ≤ B.W0 + (age + 1) * B.K := B.step (d := 8400 * B.C + 1100001 + 1000000) hw (AJG wtm) (AHy B.C)
   exact Nat.le_trans h2 h1
  have lift2 : ∀ {w : Nat}, w ≤ B.W0 + (age + 1) * B.K → w ≤ B.W0 + (age + 2) * B.K := fun h => Nat.le_trans h (Nat.add_le_add_left (Nat.mul_le_mul_right _ (Nat.le_succ _)) _)
  refine AFu (T := Hl D.T st.next st.fr) E W2 stm.up hDm hx2 hT2 ⟨L.nseg, by show st.nseg + 2 ≤ _; omega⟩ (fun n n1 n9 => by rw [fm _ (Kg n _)]; exact L.nout n n1 n9) hw2
   (fun hfu h3 S3 m3 B3 d3 md3 s3 cr3 fr3 wt3 => ⟨_, rfl, PIf.yes rfl ?_⟩) fun h3 S3 k3 m3 D3 W3 st3 dk3 ln3 T3 L3 lt3 nt3 fr3 out3 wt3 md3 gr3 => ⟨_, rfl, PIf.no rfl ?_⟩
  ·refine Gf W2 B3 (md3.weak fun c _ hc => hc.imp id .inr) s3 fun h4 dn4 B4 md4 s4 => ⟨_, rfl, ?_⟩
   have hmod4 : Mod (fun c => k c ≠ 0) h h4 := hmod.then (md4.weak fun c _ hc => hk2 c hc)
   refine H0 h4 m3 ⟨fun hh => hfu (stm.calm hh), by rw [← ed]; exact dn4, ⟨S3, by rw [← eb]; exact B4, fun c hc => ?_⟩, d3, hmod4, fun y hy => ?_, lift2 (B.step2 hw wtm wt3)⟩ fun G cr => ?_
   ·rcases s4 c hc with h1 | h1
    ·exact hk2 c h1
    ·exact .inr (by have := hmod.size; omega)
   ·rw [fr3 y fun n => AAH hy n, fm y (Mj hy _)]
   ·obtain ⟨D', d1, nx⟩ := cr3 G cr
    have hFt : ∀ n, G (tfN n) ≠ none → ff mm (tfN n) ≠ none := fun n hn => by
     have := cr.some hn
     rwa [fr3 _ fun j e => Kg j n e.symm] at this
    have n3 : D'.ntop ≤ max D.ntop (st.nseg + 1) := nx.ntop
    rcases nx.last with ⟨e1, e2⟩ | ⟨e1, e2⟩
    ·obtain ⟨r1, r2⟩ := ACb nx.L nx.ltop e1 e2
     have := L.next
     have r0 : Rec G (age + 1) c (BH st) := ⟨D', d1, ⟨by rw [nx.ltop]; omega, by omega, by rw [e1]; omega, by rw [e1, L.frm]; omega, by rw [e1, L.nmle]; omega, by rw [r2]; exact l.prs, htm hFt⟩, by rw [r1]; exact L.map⟩
     exact r0.mono (Nat.le_succ _) (Nat.le_refl _)
    ·obtain ⟨r1, r2, _⟩ := hmapn D' nx.L nx.ltop e1 e2
     exact (hrec D' G d1 nx.ltop n3 e1 r1 r2 hFt).mono (Nat.le_succ _) (Nat.le_refl _)
  ·obtain ⟨r1, r2, r3⟩ := hmapn D3 L3 lt3 ln3 T3
   have sz3 := md3.size
   have n3 : D3.ntop ≤ max D.ntop (st.nseg + 1) := nt3
   have wt3' : wtF m3.files ≤ B.W0 + (age + 1) * B.K := B.step2 hw wtm wt3
   have st3' : GQ m m3 := stm.trans st3
   have hmod3 : Mod (fun c => k c ≠ 0) h h3 := hmod.then (md3.weak fun c _ hc => by
    rcases hc with hc | hc
    ·exact hk2 c (by rw [W2.kb c hc]; decide)
    ·exact hk2 c (by rw [hc, W2.kn]; decide))
   have hk3 : ∀ c, k3 c ≠ 0 → k c ≠ 0 ∨ h.size ≤ c := fun c hc => by
    by_cases hlt : c < hh.size
    ·rw [gr3 c hlt] at hc; exact hk2 c hc
    ·exact .inr (by have := hmod.size; omega)
   refine M.AHI fun h14 T14 x14 s14 => ⟨_, rfl, ?_⟩
   have W14 := W3.on x14
   refine atI (Store.mk1 W14.cell (by simp) fun h15 hb15 m15 s15 => ?_)
   have T15 : M.Tab h15 h3.size [] [] := T14.mod m15 fun c hc e => by
    have hcc : c = h3.size := by
     rcases hc with rfl | ⟨x, hx, _⟩
     ·rfl
     ·cases hx
    have := W3.dlt
    have e2 : (q2.d : Nat) < h3.size := this
    have e3 : c = q2.d := e
    omega
   have hm15 : Mod (fun c => c = h3.size ∨ c = q2.d) h3 h15 := (Ext.mod x14).trans (m15.weak fun c _ hc => .inr hc)
   have W15 := W3.renew (h' := h15) (ft' := h3.size) T15 (Nat.le_refl _) (by simpa [dbC] using hb15) (by
    refine ⟨hm15.size, fun c hc hn => ?_⟩
    exact hm15.get c hc (by rintro (h | h); omega; exact hn h))
   have hmod15 : Mod (fun c => k c ≠ 0) h h15 := (hmod3.trans (Ext.mod x14)).then (m15.weak fun c _ hc => by
    have e : c = q2.d := hc
    rw [e]
    exact hk2 _ (by rw [W2.kd]; decide))
   have hk15 : ∀ c, Hz k3 h3.size (· = h3.size) 5 c ≠ 0 → k c ≠ 0 ∨ h.size ≤ c := fun c hc => by
    by_cases hlt : c < h3.size
    ·rw [EH hlt] at hc; exact hk3 c hc
    ·exact .inr (by have := hmod3.size; omega)
   generalize Hz k3 h3.size (· = h3.size) 5 = k15 at *
   refine atI (AU.mk (AB W15.cell rfl) ?_)
   have sz15 := hmod15.size
   have hw15 : wtF m3.files ≤ 8000000000000 := Nat.le_trans wt3' (B.wt (a := age + 1) (by omega))
   have f3 : ∀ x, x ≠ tfN st.next → (∀ n, x ≠ fnB nn n) → ff m3 x = ff m x := fun x h1 h2 => (fr3 x h2).trans (fm x h1)
   have hfrm3 : (Ac D3).frm = st.lseg + 1 := by rw [ln3]; rfl
   have hdrop : ∀ {F' : Fls}, (∀ x, F' x = ff m3 x ∨ (F' x = none ∧ ∃ n : Nat, 1 ≤ n ∧ n ≤ 99999999 ∧ n ≤ st.lseg ∧ x = fnB nl n)) → Ap F' (Jt D3 F') ∧ mapD (Jt D3 F') = BH st ∧ JZ (Jt D3 F') ≤ c ∧ Cz (Jt D3 F') = [] := fun {F'} hF => by
    have h1 : ∀ n, n ≤ 99999999 → F' (fnB nl n) = ff m3 (fnB nl n) ∨ (F' (fnB nl n) = none ∧ n < (Ac D3).frm) := fun n n9 => by
     rcases hF (fnB nl n) with h1 | ⟨h1, j, _, _, hj, e⟩
     ·exact .inl h1
     ·refine .inr ⟨h1, ?_⟩
      rw [hfrm3, F5 e]; omega
    have h2 := AIq dk3 h1 fun x hx => by
     rcases hF x with h3 | ⟨_, j, _, j9, _, e⟩
     ·exact h3
     ·exact absurd e (hx j j9)
    have h4 := AEC dk3 h1
    have h5 : Cz (Jt D3 F') = Cz D3 := by unfold Cz; rw [h4]
    refine ⟨h2, ?_, ?_, by rw [h5]; exact r3⟩
    ·rw [← r1]; unfold mapD; rw [h5]; rfl
    ·have : JZ (Jt D3 F') = JZ D3 := by unfold JZ; rw [h4]; rfl
     omega
   refine Zq (W15.evn E) (fun h' x => W15.evnB E (x.weak fun c _ hc => .inl hc)) W15.log W15.box st3.up W15.nSl (by decide) hw15 (fun hge => absurd hge (by show ¬ (st.lseg : Int) ≥ ((st.lseg + 1 : Nat) : Int); omega))
    (fun hfu h16 S16 m16 B16 d16 md16 s16 wt16 f16 => ⟨_, rfl, PIf.yes rfl ?_⟩) fun _ h16 S16 m16 B16 st16 md16 s16 wt16 f16 f16' => ⟨_, rfl, PIf.no rfl ?_⟩
   ·have hF : ∀ x, ff m16 x = ff m3 x ∨ (ff m16 x = none ∧ ∃ n : Nat, 1 ≤ n ∧ n ≤ 99999999 ∧ n ≤ st.lseg ∧ x = fnB nl n) := fun x => by
     rcases f16 x with h1 | ⟨h1, n, n1, n9, nu, e⟩
     ·exact .inl h1
     ·exact .inr ⟨h1, n, n1, n9, by omega, e⟩
    obtain ⟨d4, r4, c4, _⟩ := hdrop hF
    refine Gf (q := { q2 with Sb := S3, ft := h3.size, ns := [] }) W15 B16 (md16.weak fun c _ hc => .inl hc) (fun c hc => .inl (s16 c hc)) fun h17 dn17 B17 md17 s17 => ⟨_, rfl, ?_⟩
    refine H0 h17 m16 ⟨fun hh => hfu (st3'.calm hh), by rw [← ed]; exact dn17, ⟨S16, by rw [← eb]; exact B17, fun c hc => ?_⟩, d16, hmod15.then (md17.weak fun c _ hc => hk15 c hc), fun y hy => ?_, lift2 (Nat.le_trans wt16 wt3')⟩ fun G cr => ?_
    ·rcases s17 c hc with h1 | h1
     ·exact hk15 c h1
     ·exact .inr (by omega)
    ·rcases f16 y with h1 | ⟨_, n, _, _, _, e⟩
     ·rw [h1, f3 y (Mj hy _) fun n => AAH hy n]
     ·exact absurd e (AFH hy n)
    ·refine (hrec (Jt D3 (ff m16)) G (d4.crash cr) lt3 n3 ln3 r4 c4 fun n hn => ?_).mono (Nat.le_succ _) (Nat.le_refl _)
     have h1 := cr.some hn
     rcases f16 (tfN n) with h2 | ⟨_, j, _, _, _, e⟩
     ·rwa [h2, fr3 _ fun j e => Kg j n e.symm] at h1
     ·exact absurd e.symm (Iy j n)
   ·have hF : ∀ x, ff m16 x = ff m3 x ∨ (ff m16 x = none ∧ ∃ n : Nat, 1 ≤ n ∧ n ≤ 99999999 ∧ n ≤ st.lseg ∧ x = fnB nl n) := fun x => by
     by_cases hx : ∃ n : Nat, 1 ≤ n ∧ n ≤ 99999999 ∧ (n : Int) ≤ (st.lseg : Int) ∧ x = fnB nl n
     ·obtain ⟨n, n1, n9, nu, rfl⟩ := hx
      exact .inr ⟨f16 n n1 n9 nu, n, n1, n9, by omega, rfl⟩
     ·exact .inl (f16' x fun n n1 n9 nu e => hx ⟨n, n1, n9, nu, e⟩)
    obtain ⟨d4, r4, c4, fr4⟩ := hdrop hF
    have W16 := W15.boxed (j := 2) (st' := { st with fr := [], ts := (st.next, st.fr) :: st.ts, next := st.next + 1, frm := st.lseg + 1, lseg := st.lseg + 1, nseg := st.nseg + 1, lmade := false }) B16 (md16.weak fun c _ hc => .inl hc) (fun c hc => .inl (s16 c hc)) rfl rfl rfl rfl (.inl ⟨by decide, rfl, rfl⟩) (.inl ⟨by decide, rfl⟩)
    have hmod16 : Mod (fun c => k c ≠ 0) h h16 := hmod15.then (md16.weak fun c _ hc => hk15 c (by rw [W15.kb c hc]; decide))
    have hk16 : ∀ c, Hz k15 h15.size S16 2 c ≠ 0 → k c ≠ 0 ∨ h.size ≤ c := fun c hc => by
     by_cases hlt : c < h15.size
     ·rw [EH hlt] at hc; exact hk15 c hc
     ·exact .inr (by omega)
    generalize Hz k15 h15.size S16 2 = k16 at *
    have ffx : ∀ x, (∀ n, x ≠ fnB nl n) → ff m16 x = ff m3 x := fun x hx => f16' x fun n _ _ _ => hx n
    have tabs4 : ∀ p ∈ (st.next, st.fr) :: st.ts, (Jt D3 (ff m16)).T p.1 = p.2 := fun p hp => by
     show D3.T p.1 = p.2
     rw [T3]
     rcases List.mem_cons.1 hp with rfl | hp
     ·exact CO
     ·rw [Da fun e => hnotin (by rw [← e]; exact List.mem_map.2 ⟨p, hp, rfl⟩)]
      exact L.tabs p hp
    have L4 : DX (ff m16) { st with fr := [], ts := (st.next, st.fr) :: st.ts, next := st.next + 1, frm := st.lseg + 1, lseg := st.lseg + 1, nseg := st.nseg + 1, lmade := false } (Jt D3 (ff m16)) :=
     ⟨d4, congrArg Nt.names ln3, tabs4, congrArg Nt.frm ln3, by rw [show Ac (Jt D3 (ff m16)) = _ from ln3]; exact Nat.le_refl _, fun p hp => by
      show p.1 < st.next + 1
      rcases List.mem_cons.1 hp with rfl | hp
      ·exact Nat.lt_succ_self _
      ·have := L.below p hp; omega, fr4.symm, fun n n1 n9 _ => by
      have n1 : st.lseg + 1 ≤ n := n1
      rcases hF (fnB nl n) with h1 | h1
      ·rw [h1, f3 _ (Iy n _) fun j => Qa n j]
       exact L.lout n (by omega) n9 fun _ => by omega
      ·exact h1.1, (fun h => by cases h), fun n n1 n9 => by
      have n1 : st.nseg + 1 ≤ n := n1
      rw [ffx _ fun j e => Qa j n e.symm]; exact out3 n n1 n9, ⟨by show 1 ≤ st.lseg + 1; omega, Nat.le_refl _⟩, by show 1 ≤ st.nseg + 1; omega, fun n hn => by
      rw [ffx _ fun j e => Iy j n e.symm, fr3 _ fun j e => Kg j n e.symm] at hn
      by_cases e : n = st.next
      ·subst e; exact List.mem_cons_self
      ·rw [fm _ fun e' => e (Gl e')] at hn
       exact List.mem_cons_of_mem _ (L.clean n hn)⟩
    have n4 : (Jt D3 (ff m16)).ntop ≤ max D.ntop (st.nseg + 1) := n3
    have n5 : (Jt D3 (ff m16)).ltop = D.ltop := lt3
    have lim4 : Ob { st with fr := [], ts := (st.next, st.fr) :: st.ts, next := st.next + 1, frm := st.lseg + 1, lseg := st.lseg + 1, nseg := st.nseg + 1, lmade := false } (Jt D3 (ff m16)) (age + 1) c :=
     ⟨by show st.lseg + 1 ≤ _; omega, by show st.nseg + 1 ≤ _; omega, by show st.next + 1 ≤ _; omega, by show ((st.next, st.fr) :: st.ts).length ≤ _; simp; omega, c4, by omega, by omega⟩
    have S4 : BA B g h16 { q2 with Sb := S16, ft := h3.size, ns := [] } k16 { st with fr := [], ts := (st.next, st.fr) :: st.ts, next := st.next + 1, frm := st.lseg + 1, lseg := st.lseg + 1, nseg := st.nseg + 1, lmade := false } m16 (Jt D3 (ff m16)) (age + 1) c :=
     ⟨W16, st16.up, L4, lim4, Nat.le_trans wt16 wt3', hc⟩
    have hmS : BH { st with fr := [], ts := (st.next, st.fr) :: st.ts, next := st.next + 1, frm := st.lseg + 1, lseg := st.lseg + 1, nseg := st.nseg + 1, lmade := false } = BH st := by rw [← r4]; exact L4.map.symm
    have st4' : GQ m m16 := st3'.trans st16
    have oth4 : ∀ y, ¬ Mine y → ff m16 y = ff m y := fun y hy => by rw [ffx y fun n => AFH hy n, f3 y (Mj hy _) fun n => AAH hy n]
    refine atI (AQ.mk (s := q2.tp) (AB W16.cell rfl) ?_)
    have htl := W16.tabs.len
    have htl2 := W16.tlen
    have htl3 : q2.tp.len = st.ts.length + 1 := by
     have e1 : q2.tp.len = q2.ps.length := htl
     have e2 : q2.ps.length = ((st.next, st.fr) :: st.ts).length := htl2
     rw [e1, e2]; rfl
    refine PIf.intro (fun hq4 => ?_) (fun hq4 => ?_)
    ·refine Wd (q := { q2 with Sb := S16, ft := h3.size, ns := [] }) E S4 (by omega) (fun h' m' fe rc => ⟨_, rfl, ?_⟩) fun h' q' k' st' m' D' e1 e2 S' sty' fr' mp' ln' oth' md' kk' => ⟨_, rfl, ?_⟩
     ·rw [hmS] at rc
      obtain ⟨S', B', s'⟩ := fe.box
      refine H0 h' m' ⟨fun hh => fe.fuel (st4'.calm hh), by rw [← ed]; exact fe.dn, ⟨S', by rw [← eb]; exact B', fun c hc => ?_⟩, fe.down, hmod16.then (fe.mod.weak fun c _ hc => hk16 c hc), fun y hy => (fe.oth y hy).trans (oth4 y hy), fe.wt⟩ rc
      rcases s' c hc with h1 | h1
      ·exact hk16 c h1
      ·exact .inr (by have := hmod16.size; omega)
     ·refine H1 h' q' k' st' m' D' (e1.trans ed) (e2.trans eb) S' (st4'.trans sty') fr' (mp'.trans hmS) (.inl (by omega)) (fun y hy => (oth' y hy).trans (oth4 y hy)) (hmod16.then (md'.weak fun c _ hc => hk16 c hc)) fun c hc => ?_
      rcases kk' c hc with h1 | h1
      ·exact hk16 c h1
      ·exact .inr (by have := hmod16.size; omega)
    ·have hlt4 : ¬ ((q2.tp.len : Nat) : Int) ≥ 4 := of_decide_eq_false hq4
     refine H1 h16 { q2 with Sb := S16, ft := h3.size, ns := [] } k16 _ m16 _ ed eb (S4.age (Nat.le_succ _)) st4' rfl hmS (.inl ?_) oth4 hmod16 hk16
     show ((st.next, st.fr) :: st.ts).length ≤ 3
     rw [List.length_cons]; omega
 refine Join.mk fun K1 hK1 => ?_
 have ndt : ∀ c, q.tp.blk = some c → kk c = 6 := W7.kt
 have ndx : ∀ c, q.np.blk = some c → kk c = 7 := W7.kx
 have fin : ∀ (hh : Heap) (tp np : Sl) (N : Nat), Own PtE Aq hh tp (t :: q.ps) → Own EZ BO hh np ((st.next : Int) :: nmS st) → Mod (fun c => q.tp.blk = some c ∨ q.np.blk = some c) h7 hh → (∀ c, tp.blk = some c → (q.tp.blk = some c ∨ h7.size ≤ c) ∧ c < N) → (∀ c, np.blk = some c → q.np.blk = some c ∨ (h7.size ≤ c ∧ N ≤ c)) →
   Store hh ((⟨q.d, 0, none⟩ : Addr).add 4) (.slice tp.p tp.len tp.cap) fun h23 => Store h23 ((⟨q.d, 0, none⟩ : Addr).add 5) (.slice np.p np.len np.cap) fun h24 => K1 () h24 := by
  intro hh tp np N ot on md htp hnp
  have hkd : kk q.d = 1 := W7.kd
  have nd : ¬ (q.tp.blk = some q.d ∨ q.np.blk = some q.d) := by
   rintro (h | h)
   ·have := ndt _ h; rw [hkd] at this; cases this
   ·have := ndx _ h; rw [hkd] at this; cases this
  have cd := md.blk W7.cell nd
  have szh := md.size
  have dlt7 : q.d < h7.size := W7.dlt
  refine Store.mk1 cd (by simp) fun h23 hb23 m23 s23 => Store.mk1 hb23 (by simp) fun h24 hb24 m24 s24 => ?_
  have md24 : Mod (· = q.d) hh h24 := m23.trans m24
  have ntd : ∀ c, tp.blk = some c → ¬ c = q.d := fun c hc e => by
   rcases (htp c hc).1 with h | h
   ·exact nd (.inl (e ▸ h))
   ·omega
  have nxd : ∀ c, np.blk = some c → ¬ c = q.d := fun c hc e => by
   rcases hnp c hc with h | h
   ·exact nd (.inr (e ▸ h))
   ·omega
  have ot24 := ot.mod md24 ntd
  have on24 := on.mod md24 nxd
  have g7 := W7.ext.size
  have W24 := W7.retab (h' := h24) (tp := tp) (np := np) (ps := t :: q.ps) (ts := (st.next, st.fr) :: st.ts) (next := st.next) (frm := st.frm) (S := fun c => lo ≤ c ∧ c < hi)
   (by simpa [dbC] using hb24) ((md.weak fun c _ hc => .inr hc).trans (md24.weak fun c _ hc => .inl hc)) ot24 on24 (by have := W.tlen; simp [this])
   (fun c hc => by
    obtain ⟨h1, h2⟩ := htp c hc
    by_cases e : q.tp.blk = some c
    ·exact .inl e
    ·have h3 : h7.size ≤ c := h1.resolve_left e
     refine .inr ⟨kkb c h3, by omega, fun e2 => ?_, fun h => by omega⟩
     rcases hnp c e2 with h4 | h4
     ·have := ndx c h4; rw [kkb c h3] at this; cases this
     ·omega)
   (fun c hc => by
    by_cases e : q.np.blk = some c
    ·exact .inl e
    ·have h3 := (hnp c hc).resolve_left e
     refine .inr ⟨kkb c h3.1, by omega, fun e2 => ?_, fun h => by omega⟩
     have := (htp c e2).2
     omega)
   (fun c hc => ⟨by have := W4.ext.size; omega, by have := md24.size; omega⟩)
   (fun i t' p h1 h2 => by
    cases i with
    | zero =>
     simp only [List.getElem?_cons_zero, Option.some.injEq] at h1 h2
     subst h1 h2
     have T7 : TabAt h7 t st.fr (JS st.fr) lo hi := T5.mod m7 fun c c1 c2 hc => by
      have h0 := kz5 c c1
      rcases hc with hc | hc
      ·have := W5.kb c hc; rw [h0] at this; cases this
      ·have := W5.kl; rw [← hc, h0] at this; cases this
     have Th : TabAt hh t st.fr (JS st.fr) lo hi := T7.mod md fun c c1 c2 hc => by
      have h0 := kkz c c1 c2
      rcases hc with hc | hc
      ·have := ndt c hc; rw [h0] at this; cases this
      ·have := ndx c hc; rw [h0] at this; cases this
     refine .inr ⟨lo, hi, Th.mod md24 fun c c1 c2 hc => ?_, by have := md24.size; omega, fun c c1 c2 => ⟨⟨c1, c2⟩, kkz c c1 c2⟩, T8⟩
     have h0 := kkz c c1 c2
     rw [hc, hkd] at h0; cases h0
    | succ i => exact .inl ⟨i, by simpa using h1, by simpa using h2⟩)
  have kk24 : ∀ c, Ic kk h7.size tp np (fun c => lo ≤ c ∧ c < hi) c ≠ 0 → k c ≠ 0 ∨ h.size ≤ c := fun c hc => by
   by_cases e : kk c = 0
   ·by_cases hlt : c < h4.size
    ·exfalso
     apply hc
     unfold Ic
     rw [if_neg (by simp [e]), if_neg fun e2 => ?_, if_neg fun e2 => ?_, if_neg (by omega)]
     ·rcases hnp c e2 with h4' | h4'
      ·have := ndx c h4'; rw [e] at this; cases this
      ·omega
     ·rcases (htp c e2).1 with h4' | h4'
      ·have := ndt c h4'; rw [e] at this; cases this
      ·omega
    ·exact .inr (by omega)
   ·exact kk0 c e
  generalize Ic kk h7.size tp np (fun c => lo ≤ c ∧ c < hi) = k24 at *
  have mod24 : Mod (fun c => k c ≠ 0) h h24 := (mod7.then (md.weak fun c _ hc => kk0 c (by
   rcases hc with hc | hc
   ·rw [ndt c hc]; decide
   ·rw [ndx c hc]; decide))).then (md24.weak fun c _ hc => kk0 c (by rw [hc, hkd]; decide))
  refine hK1 _ _ ?_
  refine atI (AZ.mk (AB W24.cell rfl) (atI (Store.mk1 W24.cell (by simp) fun h25 hb25 m25 s25 => atI (Store.mk1 hb25 (by simp) fun h26 hb26 m26 s26 => ?_))))
  have ew1 : IntKind.wrap .i64 (((st.next : Nat) : Int) + (1 : Int)) = ((st.next + 1 : Nat) : Int) := AR (by omega)
  have ew2 : IntKind.wrap .i64 (((st.lseg : Nat) : Int) + (1 : Int)) = ((st.lseg + 1 : Nat) : Int) := AR (by omega)
  have md26 : Mod (· = q.d) h24 h26 := m25.trans m26
  have ntd24 : ∀ c, tp.blk = some c → ¬ c = q.d := ntd
  have W26 := W24.retab (h' := h26) (tp := tp) (np := np) (ps := t :: q.ps) (ts := (st.next, st.fr) :: st.ts) (next := st.next + 1) (frm := st.lseg + 1) (S := fun _ => False)
   (by rw [ew1, ew2] at hb26; simpa [dbC] using hb26) (md26.weak fun c _ hc => .inl hc) (ot24.mod md26 ntd) (on24.mod md26 nxd) (by have := W.tlen; simp [this]) (fun c hc => .inl hc) (fun c hc => .inl hc) (fun c h => h.elim) (fun i t' p h1 h2 => .inl ⟨i, h1, h2⟩)
  have hk26 : ∀ c, Ic k24 h24.size tp np (fun _ => False) c ≠ 0 → k c ≠ 0 ∨ h.size ≤ c := fun c hc => by
   by_cases e : k24 c = 0
   ·exfalso
    apply hc
    unfold Ic
    rw [if_neg (by simp [e]), if_neg fun e2 => ?_, if_neg fun e2 => ?_, if_neg fun h => h]
    ·have h1 : k24 c = 7 := W24.kx c e2
     rw [e] at h1; cases h1
    ·have h1 : k24 c = 6 := W24.kt c e2
     rw [e] at h1; cases h1
   ·exact kk24 c e
  exact told h26 { q with Sb := S5, tp := tp, np := np, ps := t :: q.ps } _ W26 rfl rfl (mod24.then (md26.weak fun c _ hc => kk24 c (by
   have h1 : k24 q.d = 1 := W24.kd
   rw [hc, h1]; decide))) hk26
 have c7 := W7.cell
 have o7t : Own PtE Aq h7 q.tp q.ps := W7.tabs
 have o7n : Own EZ BO h7 q.np (nmS st) := W7.names
 have hpl : q.ps.length ≤ 1000000 := by rw [W.tlen]; omega
 have hnl : (nmS st).length ≤ 1000000 := by simp [nmS]; omega
 have tne : ∀ c, q.tp.blk = some c → q.np.blk ≠ some c := fun c h1 h2 => by
  have := ndt c h1; rw [ndx c h2] at this; cases this
 have tlt7 : ∀ c, q.tp.blk = some c → c < h7.size := fun c hc => o7t.lt hc
 have xlt7 : ∀ c, q.np.blk = some c → c < h7.size := fun c hc => o7n.lt hc
 refine atI (AQ.mk (s := q.tp) (AB c7 rfl) (atI (AQ.mk (s := q.np) (AB c7 rfl) (atI (AZ.mk (AB c7 rfl) ?_)))))
 have cellAt : ∀ {hh : Heap}, Mod (fun c => q.tp.blk = some c ∨ q.np.blk = some c) h7 hh → hh[q.d]? = some (.cells (dbC { q with Sb := S5 } { st with lseg := st.lseg + 1, lmade := false } false) De (0, 0)) := fun x => x.blk W7.cell (by
  have hkd : kk q.d = 1 := W7.kd
  rintro (h | h)
  ·have := ndt _ h; rw [hkd] at this; cases this
  ·have := ndx _ h; rw [hkd] at this; cases this)
 refine ⟨?_, ?_⟩
 ·refine New.mk fun h19 _ hb19 x19 s19 => ⟨AB (cellAt (Ext.mod x19)) rfl, AB (cellAt (Ext.mod x19)) rfl, AB (cellAt (Ext.mod x19)) rfl, ?_, ?_⟩
  ·refine ABB (o7t.ext x19) hb19 (fun e => by have := tlt7 _ e; omega) hpl fun s20 h20 o20 m20 b20 => ⟨_, rfl, ?_⟩
   have md20 : Mod (fun c => q.tp.blk = some c ∨ q.np.blk = some c) h7 h20 := (Ext.mod x19).trans (m20.weak fun c _ hc => .inl hc)
   refine ⟨AB (cellAt md20) rfl, AB (cellAt md20) rfl, New.mk fun h21 _ hb21 x21 s21 => ⟨AB (cellAt (md20.trans (Ext.mod x21))) rfl, AB (cellAt (md20.trans (Ext.mod x21))) rfl, ?_⟩⟩
   have on21 : Own EZ BO h21 q.np (nmS st) := (((o7n.ext x19).mod m20 fun c hc e => tne c e hc)).ext x21
   refine ABo on21 hb21 (fun e => by have := xlt7 _ e; have := md20.size; omega) hnl fun s22 h22 o22 m22 b22 => ⟨_, rfl, ?_⟩
   have sz20 := md20.size
   have blt : ∀ c, s20.blk = some c → c < h20.size := fun c hc => o20.lt hc
   refine fin h22 s20 s22 h20.size (((o20.ext x21)).mod m22 fun c hc e => ?_) o22 ((md20.trans (Ext.mod x21)).trans (m22.weak fun c _ hc => .inr hc)) (fun c hc => ⟨(b20 c hc).imp id fun h => by omega, blt c hc⟩) fun c hc => (b22 c hc).imp id fun h => ⟨by omega, by omega⟩
   rcases b20 c hc with h1 | h1
   ·exact tne c h1 e
   ·have := xlt7 c e; omega
  ·refine New.mk fun h25 _ hb25 x25 s25 => ?_
   have x725 := x19.trans x25
   refine ⟨AB (cellAt (Ext.mod x725)) rfl, AB (cellAt (Ext.mod x725)) rfl, ?_⟩
   refine ABB (o7t.ext x725) (x25.blk hb19 fun h => h) (fun e => by have := tlt7 _ e; omega) hpl fun s20 h20 o20 m20 b20 => ⟨_, rfl, ?_⟩
   have md20 : Mod (fun c => q.tp.blk = some c ∨ q.np.blk = some c) h7 h20 := (Ext.mod x725).trans (m20.weak fun c _ hc => .inl hc)
   refine ⟨AB (cellAt md20) rfl, AB (cellAt md20) rfl, ?_⟩
   have sz20 := md20.size
   have on21 : Own EZ BO h20 q.np (nmS st) := (o7n.ext x725).mod m20 fun c hc e => tne c e hc
   have hb26 : h20[h19.size]? = some (.cells #[.int .i64 (st.next : Int)] BO (0, 0)) := m20.blk hb25 (fun e => by have := tlt7 _ e; omega)
   refine ABo on21 hb26 (fun e => by have := xlt7 _ e; omega) hnl fun s22 h22 o22 m22 b22 => ⟨_, rfl, ?_⟩
   have blt : ∀ c, s20.blk = some c → c < h20.size := fun c hc => o20.lt hc
   refine fin h22 s20 s22 h20.size (o20.mod m22 fun c hc e => ?_) o22 (md20.trans (m22.weak fun c _ hc => .inr hc)) (fun c hc => ⟨(b20 c hc).imp id fun h => by omega, blt c hc⟩) fun c hc => (b22 c hc).imp id fun h => ⟨by omega, by omega⟩
   rcases b20 c hc with h1 | h1
   ·exact tne c h1 e
   ·have := xlt7 c e; omega
 ·refine New.mk fun h30 _ hb30 x30 s30 => ⟨AB (cellAt (Ext.mod x30)) rfl, AB (cellAt (Ext.mod x30)) rfl, New.mk fun h31 _ hb31 x31 s31 => ?_⟩
  have x731 := x30.trans x31
  refine ⟨AB (cellAt (Ext.mod x731)) rfl, AB (cellAt (Ext.mod x731)) rfl, AB (cellAt (Ext.mod x731)) rfl, ?_⟩
  refine ABB (o7t.ext x731) hb31 (fun e => by have := tlt7 _ e; omega) hpl fun s20 h20 o20 m20 b20 => ⟨_, rfl, ?_⟩
  have md20 : Mod (fun c => q.tp.blk = some c ∨ q.np.blk = some c) h7 h20 := (Ext.mod x731).trans (m20.weak fun c _ hc => .inl hc)
  refine ⟨AB (cellAt md20) rfl, AB (cellAt md20) rfl, ?_⟩
  have sz20 := md20.size
  have on21 : Own EZ BO h20 q.np (nmS st) := (o7n.ext x731).mod m20 fun c hc e => tne c e hc
  have hb32 : h20[h7.size]? = some (.cells #[.int .i64 (st.next : Int)] BO (0, 0)) := m20.blk (x31.blk hb30 fun h => h) (fun e => by have := tlt7 _ e; omega)
  refine ABo on21 hb32 (fun e => by have := xlt7 _ e; omega) hnl fun s22 h22 o22 m22 b22 => ⟨_, rfl, ?_⟩
  have blt : ∀ c, s20.blk = some c → c < h20.size := fun c hc => o20.lt hc
  refine fin h22 s20 s22 h20.size (o20.mod m22 fun c hc e => ?_) o22 (md20.trans (m22.weak fun c _ hc => .inr hc)) (fun c hc => ⟨(b20 c hc).imp id fun h => by omega, blt c hc⟩) fun c hc => (b22 c hc).imp id fun h => ⟨by omega, by omega⟩
  rcases b20 c hc with h1 | h1
  ·exact tne c h1 e
  ·have := xlt7 c e; omega
end
end Go.Lf.G

/-
 Contract: a batch is written (chapter 9).
-/
set_option maxRecDepth 100000
set_option linter.unusedVariables false
set_option linter.unusedSimpArgs false
namespace Go.Lf.G
open Go
open M (Sorted Ah Df BL Al BF CZ Au OkL Bo)
def EE : List Pr → Int
 | [] => 0
 | x :: l => if Au x ≠ 0 then Au x else EE l
def Bu (l : List Pr) : Int := if l.length = 0 then 1 else if l.length > 64 then 2 else EE l
theorem XA : ∀ {l : List Pr}, EE l = 0 → CZ l
 | [], _ => AC6
 | x :: l, h => by
  unfold EE at h
  split at h
  ·rename_i h1; exact absurd h h1
  ·rename_i h1
   intro y hy
   rcases List.mem_cons.1 hy with rfl | hy
   ·exact Decidable.not_not.1 h1
   ·exact XA h y hy
theorem KI {l : List Pr} (h : Bu l = 0) : TJ l ∧ CZ l ∧ l ≠ [] := by
 unfold Bu at h
 split at h
 ·cases h
 ·rename_i h1
  split at h
  ·cases h
  ·rename_i h2
   have := XA h
   exact ⟨⟨by omega, fun x hx => AF8 (this x hx)⟩, this, fun e => h1 (by rw [e]; rfl)⟩
theorem Rt {l : List Pr} {i : Nat} {x : Pr} (hx : l[i]? = some x) (h : EE (l.take i) = 0) : EE l = if Au x ≠ 0 then Au x else EE l := by
 split
 ·rename_i hw
  induction l generalizing i with
  | nil => simp at hx
  | cons y l ih =>
   cases i with
   | zero =>
    simp at hx; subst hx
    unfold EE; rw [if_pos hw]
   | succ i =>
    have h0 : EE (y :: l.take i) = 0 := h
    unfold EE at h0 ⊢
    split at h0
    ·rename_i h1; exact absurd h0 h1
    ·rename_i h1
     rw [if_neg h1]
     exact ih (by simpa using hx) h0
 ·rfl
theorem O9 : ∀ {l : List Pr} {x : Pr}, EE l = 0 → Au x = 0 → EE (l ++ [x]) = 0
 | [], x, _, h => by show EE [x] = 0; unfold EE; rw [if_neg (by simp [h])]; rfl
 | y :: l, x, h, hx => by
  have h0 : EE (y :: l) = 0 := h
  show EE (y :: (l ++ [x])) = 0
  unfold EE at h0 ⊢
  split at h0
  ·rename_i h1; exact absurd h0 h1
  ·rename_i h1
   rw [if_neg h1]
   exact O9 h0 hx
theorem YQ {A : Amb} {h : Heap} {s : Sl} {l : List Pr} {R : Value → Heap → Prop} (v : View Af h s l) (H : ∀ h', Ext h h' → R (.int .i64 (Bu l)) h') : AA A P JQ #[.slice s.p s.len s.cap] h R := by
 refine AA7 ?_
 unfold PM
 rw [v.len]
 refine PIf.intro (fun hq => ?_) (fun hq => ?_)
 ·have h0 : l.length = 0 := by have : ((l.length : Nat) : Int) = 0 := (by simpa using hq); omega
  have := H h Mod.refl
  unfold Bu at this
  rwa [if_pos h0] at this
 have h0 : l.length ≠ 0 := fun e => by rw [e] at hq; cases hq
 refine PIf.intro (fun hq => ?_) (fun hq => ?_)
 ·have h1 : l.length > 64 := by have := of_decide_eq_true hq; omega
  have := H h Mod.refl
  unfold Bu at this
  rwa [if_neg h0, if_pos h1] at this
 have h1 : ¬ l.length > 64 := by have := of_decide_eq_false hq; omega
 have hck : Bu l = EE l := by unfold Bu; rw [if_neg h0, if_neg h1]
 rw [hck] at H
 refine Loop.rule (fun mm x hh => ∃ i : Nat, x = ((i : Int), ()) ∧ mm = l.length - i ∧ i ≤ l.length ∧ Ext h hh ∧ EE (l.take i) = 0) ?_ ⟨0, rfl, rfl, by omega, Mod.refl, rfl⟩
 rintro K mm _ hh ⟨i, rfl, rfl, hi, xx, hw⟩ hK
 dsimp only
 refine PIf.intro (fun hq => ?_) (fun hq => ?_)
 ·have hil : i < l.length := by have := of_decide_eq_true hq; omega
  have hget : l[i]? = some l[i] := List.getElem?_eq_getElem hil
  rw [← v.len]
  refine (v.ext xx).idx hget fun a _ c => ?_
  obtain ⟨c0, c1, c2⟩ := c.pair
  refine AC.mk c0 (AC.mk c1 (AY.mk c2 (New.pair fun b h5 _ hb5 x5 s5 => ?_)))
  have x05 := xx.trans x5
  generalize l[i] = p at *
  have hsp := Rt hget hw
  refine Join.mk fun K1 hK1 => ?_
  have bad1 : Au p = 1 → ∀ hh, Ext h hh → R (.int .i64 1) hh := fun e hh x => by
   have := H hh x
   rw [hsp, if_pos (by rw [e]; decide), e] at this
   exact this
  have bad2 : Au p = 2 → ∀ hh, Ext h hh → R (.int .i64 2) hh := fun e hh x => by
   have := H hh x
   rw [hsp, if_pos (by rw [e]; decide), e] at this
   exact this
  have ewp : Au p = if (decide (p.key = ⟨#[]⟩) || (p.gone && !decide (p.val = ⟨#[]⟩))) then 1 else if (decide (p.key.size > 64) || decide (p.val.size > 8192)) then 2 else 0 := rfl
  have go1 : (decide (p.key = ⟨#[]⟩) || (p.gone && !decide (p.val = ⟨#[]⟩))) = true → K1 (true, ()) h5 := fun e => hK1 _ _ (PIf.yes rfl (bad1 (by rw [ewp, if_pos e]) h5 x05))
  have go0 : (decide (p.key = ⟨#[]⟩) || (p.gone && !decide (p.val = ⟨#[]⟩))) = false → K1 (false, ()) h5 := fun e => hK1 _ _ (PIf.no rfl (by
   refine Join.mk fun K2 hK2 => ?_
   have fin2 : (decide (p.key.size > 64) || decide (p.val.size > 8192)) = true → K2 (true, ()) h5 := fun e2 => hK2 _ _ (PIf.yes rfl (bad2 (by rw [ewp, if_neg (by rw [e]; decide), if_pos e2]) h5 x05))
   have fin0 : (decide (p.key.size > 64) || decide (p.val.size > 8192)) = false → K2 (false, ()) h5 := fun e2 => hK2 _ _ (PIf.no rfl (by
    have hg : Au p = 0 := by rw [ewp, if_neg (by rw [e]; decide), if_neg (by rw [e2]; decide)]
    rw [AR (by omega)]
    refine hK (l.length - (i + 1)) _ _ (by omega) ⟨i + 1, rfl, rfl, hil, x05, ?_⟩
    rw [List.take_add_one, hget]
    exact O9 hw hg))
   refine AC.mk (AJ hb5 rfl) (PIf.intro (fun q1 => ?_) (fun q1 => ?_))
   ·have h64 : p.key.size > 64 := by have := of_decide_eq_true q1; omega
    exact fin2 (by simp [h64])
   ·have h64 : ¬ p.key.size > 64 := by have := of_decide_eq_false q1; omega
    refine AC.mk (AB hb5 rfl) ?_
    by_cases h8 : p.val.size > 8192
    ·rw [decide_eq_true (show ((p.val.size : Int) > (8192 : Int)) by omega)]
     exact fin2 (by simp [h8])
    ·rw [decide_eq_false (show ¬ ((p.val.size : Int) > (8192 : Int)) by omega)]
     exact fin0 (by simp [h8]; omega)))
  refine AC.mk (AJ hb5 rfl) ?_
  rw [BR]
  refine PIf.intro (fun q1 => ?_) (fun q1 => ?_)
  ·exact go1 (by rw [q1]; rfl)
  ·refine AY.mk (AB hb5 rfl) (PIf.intro (fun q2 => ?_) (fun q2 => ?_))
   ·refine AC.mk (AB hb5 rfl) ?_
    rw [BR]
    cases q3 : decide (p.val = (⟨#[]⟩ : ByteArray)) with
    | true => exact go0 (by rw [q1, q2, q3]; rfl)
    | false => exact go1 (by rw [q1, q2, q3]; rfl)
   ·exact go0 (by rw [q1, q2]; rfl)
 ·have hil : i = l.length := by have := of_decide_eq_false hq; omega
  subst hil
  rw [List.take_length] at hw
  have := H hh xx
  rwa [hw] at this
end Go.Lf.G

