/-
 Contract: a batch is written (chapter 9).
-/
import Derived.Test.YtdmlhpjdmgaggaaGreatDoorLfZ11ToZ12
import Derived.Lib.AtoiAllCases
set_option linter.unusedVariables false
set_option linter.unusedSimpArgs false
set_option maxRecDepth 100000
set_option linter.unusedVariables false
set_option linter.unusedSimpArgs false
namespace Go.Lf.G
open Go
open M (Sorted Ah Df BL Al BF CZ Au OkL Bo)
theorem Zy {F : Fls} {D : BK} (h : Ap F D) {s : Nat} (hs : s ≤ 99999999) {b : List Pr} (hb : TJ b) : ∀ r ∈ (D.L s).map (Ay s) ++ [Ay s b], r.length ≤ 1048576 := fun r hr => by
 rcases List.mem_append.1 hr with hr | hr
 ·obtain ⟨c, hc, rfl⟩ := List.mem_map.1 hr
  have := Uf hs (h.bat s c hc); omega
 ·rw [List.mem_singleton.1 hr]
  have := Uf hs hb; omega
theorem AEg (rs : List (List UInt8)) (r : List UInt8) : wraps (rs ++ [r]) = wraps rs ++ Bt r := by simp
theorem AD2 {F F1 : Fls} {D : BK} {s : Nat} {b : List Pr} (h : Ap F D) (hs : 1 ≤ s ∧ s + 1 ≤ 99999999) (hb : TJ b) (hF1 : ∀ y, F1 y = if y = fnB nl s then some (Aa (wraps ((D.L s).map (Ay s) ++ [Ay s b])), bs0) else F y) : Ap F1 (OM D s b) := by
 refine AJ6 h hs hb (fun n _ _ hne => .inl ?_) (fun n _ _ => .inl ?_) (fun n => .inl ?_) (fun y h1 hy => ?_) ⟨_, by rw [hF1, if_pos rfl], ?_⟩
 ·rw [hF1, if_neg fun e => hne (F5 e)]
 ·rw [hF1, if_neg fun e => Qa s n e.symm]
 ·rw [hF1, if_neg fun e => Iy s n e.symm]
 ·rw [hF1, if_neg (h1 s)] at hy; exact hy
 ·rw [HV, List.map_append]
  have := Ng (rs := (D.L s).map (Ay s) ++ [Ay s b]) (Zy h (by omega) hb) (t := []) Ox
  rw [List.append_nil] at this
  exact this
theorem AEp {F F1 G : Fls} {D : BK} {s : Nat} {b : List Pr} (h : Ap F D) (hs : 1 ≤ s ∧ s + 1 ≤ 99999999) (hb : TJ b) (hF1 : ∀ y, F1 y = if y = fnB nl s then some (Aa (wraps ((D.L s).map (Ay s))), Aa (Bt (Ay s b))) else F y) (c : Gr F1 G) :
  Ap G { D with ltop := max D.ltop (s + 1) } ∨ Ap G (OM D s b) := by
 have kl : ∀ n, 1 ≤ n → n ≤ 99999999 → n ≠ s → Ju (F (fnB nl n)) (G (fnB nl n)) := fun n n1 n9 hne => by
  have e : F1 (fnB nl n) = F (fnB nl n) := by rw [hF1, if_neg fun e => hne (F5 e)]
  have := c.firm (x := fnB nl n) fun p hp => (h.log.has n p n1 n9 (e ▸ hp)).1
  rwa [e] at this
 have kn : ∀ n, 1 ≤ n → n ≤ 99999999 → Ju (F (fnB nn n)) (G (fnB nn n)) := fun n n1 n9 => by
  have e : F1 (fnB nn n) = F (fnB nn n) := by rw [hF1, if_neg fun e => Qa s n e.symm]
  have := c.firm (x := fnB nn n) fun p hp => (h.note.has n p n1 n9 (e ▸ hp)).1
  rwa [e] at this
 have ft : ∀ n, F1 (tfN n) = F (tfN n) := fun n => by rw [hF1, if_neg fun e => Iy s n e.symm]
 have ktn : ∀ n ∈ (Ac D).names, G (tfN n) = some (Aa (Gs (D.T n)), bs0) ∧ Eu (D.T n) := fun n hm => by
  obtain ⟨h1, h2⟩ := h.tab n hm
  have := c.firm (x := tfN n) fun p hp => by rw [ft, h1] at hp; cases hp; rfl
  rw [ft] at this
  exact ⟨QC this h2 h1, h2⟩
 have ko : ∀ y, (∀ n, y ≠ fnB nl n) → G y ≠ none → F y ≠ none := fun y hy hg hf => hg (by
  have := c y
  rw [hF1, if_neg (hy s), hf] at this
  exact this)
 have hc := c (fnB nl s)
 rw [hF1, if_pos rfl] at hc
 obtain ⟨j, hj⟩ := hc
 have tr := AGA (rs := (D.L s).map (Ay s)) (r := Ay s b) (Zy h (by omega) hb) j
 have old : (G (fnB nl s) = none ∧ (D.L s).map (Ay s) = [] ∨ ∃ y, G (fnB nl s) = some (y, bs0) ∧ Jq (bl y) ((D.L s).map (Ay s))) → Ap G { D with ltop := max D.ltop (s + 1) } := fun hv => by
  refine ⟨?_, h.note.keep h.tops.2.2.1 kn, ktn, h.bat, h.nts, fun y hy hd => h.tonly y (ko y (fun n e => by rw [e, MM] at hd; cases hd) hy) hd, by have := h.tops; refine ⟨?_, ?_, this.2.2.1, this.2.2.2⟩ <;> simp only [] <;> omega⟩
  have := h.log.put (G := G) (top' := max D.ltop (s + 1)) (s := s) (v := (D.L s).map (Ay s)) ⟨hs.1, by omega⟩ (by omega) (fun n n1 n9 hne => kl n n1 n9 hne) hv (by omega)
  have e : (Hl (fun n => (D.L n).map (Ay n)) s ((D.L s).map (Ay s))) = fun n => (D.L n).map (Ay n) := by
   funext n
   by_cases e : n = s
   ·subst e; rw [CO]
   ·rw [Da e]
  rw [e] at this
  exact this
 split at hj
 ·rename_i he
  left
  refine old (.inl ⟨hj, ?_⟩)
  rw [he] at tr
  have hn : ∀ rs, Jq (bl bs0) rs → rs = [] := fun rs hr => We hr
  rcases tr with tr | tr
  ·exact hn _ tr
  ·have := hn _ tr
   simp at this
 ·rcases tr with tr | tr
  ·exact .inl (old (.inr ⟨_, hj, tr⟩))
  ·right
   have e9 : (D.L s ++ [b]).map (Ay s) = (D.L s).map (Ay s) ++ [Ay s b] := by rw [List.map_append]; rfl
   refine ⟨?_, h.note.keep h.tops.2.2.1 kn, ktn, fun n x hx => ?_, h.nts, fun y hy hd => h.tonly y (ko y (fun n e => by rw [e, MM] at hd; cases hd) hy) hd, by have := h.tops; refine ⟨?_, ?_, this.2.2.1, this.2.2.2⟩ <;> simp only [OM] <;> omega⟩
   ·have := h.log.put (G := G) (top' := max D.ltop (s + 1)) (s := s) (v := (D.L s ++ [b]).map (Ay s)) ⟨hs.1, by omega⟩ (by omega) (fun n n1 n9 hne => kl n n1 n9 hne) (.inr ⟨_, hj, by rw [e9]; exact tr⟩) (by omega)
    have e : (Hl (fun n => (D.L n).map (Ay n)) s ((D.L s ++ [b]).map (Ay s))) = fun n => ((OM D s b).L n).map (Ay n) := by
     funext n
     show _ = (Hl D.L s (D.L s ++ [b]) n).map (Ay n)
     by_cases e : n = s
     ·subst e; rw [CO, CO]
     ·rw [Da e, Da e]
    rw [e] at this
    exact this
   ·by_cases e : n = s
    ·have hx : x ∈ Hl D.L s (D.L s ++ [b]) n := hx
     rw [e, CO] at hx
     rcases List.mem_append.1 hx with hx | hx
     ·exact h.bat s x hx
     ·rw [List.mem_singleton.1 hx]; exact hb
    ·have hx : x ∈ Hl D.L s (D.L s ++ [b]) n := hx
     rw [Da e] at hx
     exact h.bat n x hx
theorem ALE {F : Fls} {D : BK} (h : Ap F D) {t : Nat} (ht : D.ltop ≤ t) : FX { D with ltop := t } = FX D := by
 unfold FX
 exact O4 ht fun n h1 _ => by
  show (if n < (Ac D).frm then [] else D.L n) = []
  split
  ·rfl
  ·exact h.farL (.inr h1)
section
variable {A : Amb} {B : Bud} {g h : Heap} {q : Hp} {k : Nat → Nat} {st : Db} {m : Bx} {D : BK} {age c : Nat} {R : Value → Heap → Prop}
theorem ALC (W : DbH g h q k st m) (H : R (.int .i64 (st.lseg : Int)) h) : AA A P ER #[BC q.lg] h R := by
 refine KY ?_
 unfold F7
 exact PIf.no rfl (atI (AZ.mk (AB W.log rfl) H))
theorem AEu (C : Nat) : 600000 ≤ 20000 * C + 10000000 := by omega
theorem Bud.up (B : Bud) {w a : Nat} {b : Nat} (hab : a ≤ b) (h : w ≤ B.W0 + a * B.K) : w ≤ B.W0 + b * B.K := Nat.le_trans h (Nat.add_le_add_left (Nat.mul_le_mul_right _ hab) _)
structure Wrote (st st' : Db) (l : List Pr) : Prop where
 map : BH st' = wrL (BH st) l
 full : 4096 ≤ M.DF (BL st.fr l) → st'.fr = [] ∧ (st'.ts.length ≤ 3 ∨ st'.ts.length = st.ts.length)
 less : M.DF (BL st.fr l) < 4096 → st'.fr = BL st.fr l ∧ st'.ts = st.ts
theorem XJ {s : Sl} {l : List Pr} (E : Evn g) (S : BA B g h q k st m D age c) (hA : age + 3 ≤ B.A) (hv : View Af h s l) (hs : l ≠ [] → ∀ b, s.blk = some b → b < h.size ∧ k b = 0) (hC : Bu l = 0 → c + l.length ≤ B.C)
  (He : Bu l ≠ 0 → ∀ h', Ext h h' → R (.int .i64 (Bu l)) h')
  (H0 : Bu l = 0 → ∀ h' m', AGV B h h' q k m m' (age + 3) → (∀ G, Gr (ff m') G → Rec G (age + 3) (c + l.length) (BH st) ∨ Rec G (age + 3) (c + l.length) (wrL (BH st) l)) → R (.int .i64 30) h')
  (H2 : Bu l = 0 → ∀ h' m', AGV B h h' q k m m' (age + 3) → Xl (ff m') (age + 3) (c + l.length) (wrL (BH st) l) → R (.int .i64 0) h')
  (H1 : Bu l = 0 → ∀ h' q' k' st' m' D', q'.d = q.d → q'.b = q.b → BA B g h' q' k' st' m' D' (age + 3) (c + l.length) → GQ m m' → Wrote st st' l → (∀ y, ¬ Mine y → ff m' y = ff m y) → Mod (fun c => k c ≠ 0) h h' → (∀ c, k' c ≠ 0 → k c ≠ 0 ∨ h.size ≤ c) → R (.int .i64 0) h') :
  AA A P Ex #[BC q.d, .slice s.p s.len s.cap] h R := by
 obtain ⟨W, hd, L, lm, hw, hc⟩ := S
 have hBA := B.hA
 have hBC := B.hC
 have hW8 := B.wt (a := age) (by omega)
 have hlseg := lm.lseg
 have hlfrm := L.lfrm
 have hltop := lm.ltop
 refine OG ?_
 unfold IK
 refine Join.mk fun K hK => SA W (hK _ _ (PIf.no rfl ?_))
 refine YQ hv fun h2 x2 => ⟨_, rfl, ?_⟩
 refine PIf.intro (fun hq => He (by simpa using hq) h2 x2) (fun hq => ?_)
 have hck : Bu l = 0 := by simpa using hq
 obtain ⟨hb, hg, hne⟩ := KI hck
 replace hs := hs hne
 replace hC := hC hck
 have W2 := W.on x2
 refine atI (AU.mk (AB W2.cell rfl) (atI (AU.mk (AB W2.cell rfl) ?_)))
 refine ALC W2 ⟨_, rfl, ⟨AB W2.cell rfl, ?_⟩⟩
 refine AH3 (by omega) hb.len hb.ok (hv.ext x2) (fun b hb => by have := (hs b hb).1; have := x2.size; omega) fun h4 x4 => ⟨_, rfl, ⟨AB (W2.on x4).cell rfl, ?_⟩⟩
 have W4 := W2.on x4
 have x04 := x2.trans x4
 have sz04 := x04.size
 have bl1 := Uf (s := st.lseg) (by omega) hb
 have eb : (Aa (Ay st.lseg l)).size = (Ay st.lseg l).length := AV _
 refine Qz (W4.evn E) W4.log W4.box W4.nSl (fun h' x => W4.evnB E (x.weak fun c _ hc => .inl hc)) (by decide) (by omega) (by rw [eb]; omega) (Nat.le_trans hw hW8) fun h5 S5 B5 L5 m5 s5 => ⟨_, rfl, ?_⟩
 rw [show bl (Aa (Ay st.lseg l)) = Ay st.lseg l from HV _] at B5 L5 ⊢
 have wt5 := P7 W.box.good (fnB nl st.lseg) (Aa (Bt (Ay st.lseg l)))
 have wl := (Fa (r := Ay st.lseg l) (by omega)).2
 rw [AV] at wt5
 have sub5 : ∀ c, S5 c → q.Sb c ∨ h4.size ≤ c := fun c hc => (s5 c hc).imp id fun h => h.1
 have hLcur : ((ff m (fnB nl st.lseg)).getD (bs0, bs0)) = (Aa (wraps ((D.L st.lseg).map (Ay st.lseg))), bs0) := by
  cases hm : st.lmade with
  | true => rw [L.lcur hm]; rfl
  | false =>
   have hf := L.lout st.lseg (Nat.le_refl _) (by omega) (by rw [hm]; simp)
   rw [hf, L.ok.nonL (by omega) hf]; rfl
 have hnoL : ∀ n, st.lseg < n → D.L n = [] := fun n hn => L.noL lm (by omega) hn
 have hsL : 1 ≤ st.lseg ∧ st.lseg + 1 ≤ 99999999 := ⟨by omega, by omega⟩
 have hfrmD : (Ac D).frm ≤ st.lseg := by rw [L.frm]; exact L.lfrm.2
 obtain ⟨amap, am2⟩ := AII L.ok hfrmD hnoL hb
 have abats := Zk L.ok (b := l) hfrmD hnoL
 have acnt : JZ (OM D st.lseg l) = JZ D + l.length := by
  unfold JZ
  rw [abats, List.flatten_append, List.length_append]
  have : (Ac (OM D st.lseg l)).names.map (fun n => ((OM D st.lseg l).T n).length) = (Ac D).names.map fun n => (D.T n).length := rfl
  rw [this]; simp; omega
 have ht : ∀ {F' : Fls}, (∀ n, F' (tfN n) ≠ none → ff m (tfN n) ≠ none) → ∀ n, F' (tfN n) ≠ none → n < 8 * age + 8 := fun hF n hn => by
  have := L.tlt lm (hF n hn)
  have := lm.next; omega
 have up3 : ∀ {w : Nat}, w ≤ B.W0 + (age + 1) * B.K → w ≤ B.W0 + (age + 3) * B.K := fun h => B.up (by omega) h
 rcases NY (k := fnB nl st.lseg) (d := Aa (Bt (Ay st.lseg l))) hd (AAf (by decide) (by omega)) with ⟨hf0, e5⟩ | ⟨e5, st5, f5⟩
 ·rw [e5] at B5 ⊢
  refine PIf.yes rfl ?_
  refine Gf W4 B5 (m5.weak fun c _ hc => hc.imp id .inl) sub5 fun h6 dn6 B6 md6 s6 => ⟨_, rfl, ?_⟩
  refine H0 hck h6 (Ii m) ⟨by rw [hf0]; decide, dn6, ⟨S5, B6, fun c hc => (s6 c hc).imp id fun h => by omega⟩, rfl, (Ext.mod x04).trans md6, fun _ _ => rfl, B.up (by omega) hw⟩ fun G cr => .inl ?_
  exact (L.recS lm G cr).mono (by omega) (by omega)
 rw [e5] at L5 ⊢
 refine PIf.no rfl ?_
 rw [decide_eq_true rfl, Bool.or_true] at L5
 generalize (CX m (fnB nl st.lseg) (Aa (Bt (Ay st.lseg l)))).2 = ma at *
 have f5' : ∀ y, ff ma y = if y = fnB nl st.lseg then some (Aa (wraps ((D.L st.lseg).map (Ay st.lseg))), Aa (Bt (Ay st.lseg l))) else ff m y := fun y => by
  rw [f5, hLcur]; simp only [Nb]
 have nS5 : ¬ S5 q.lg := fun hc => by
  rcases s5 _ hc with h | h
  ·exact W4.nSl h
  ·exact h.2 rfl
 have W5 := W4.boxed (j := 3) (st' := { st with lmade := true }) B5 (m5.weak fun c _ hc => hc.imp id fun h => .inl ⟨rfl, h⟩) sub5 rfl rfl rfl rfl (.inr L5) (.inl ⟨by decide, rfl⟩)
 have gr5 : Grow k (Hz k h4.size S5 2) h4.size := YT
 have kz5 : ∀ c, Hz k h4.size S5 2 c ≠ 0 → k c ≠ 0 ∨ h.size ≤ c := fun c hc => by
  by_cases hlt : c < h4.size
  ·rw [gr5 c hlt] at hc; exact .inl hc
  ·exact .inr (by omega)
 generalize Hz k h4.size S5 2 = k5 at *
 have mod5 : Mod (fun c => k c ≠ 0) h h5 := (Ext.mod x04).trans (m5.weak fun c _ hc => by
  rcases hc with hc | hc
  ·rw [W.kb c hc]; decide
  ·rw [hc, W.kl]; decide)
 refine atI (AU.mk (AB W5.cell rfl) ?_)
 refine WZ (W5.evn E) W5.log W5.box W5.nSl (by decide) (by show st.lseg ≤ _; omega) fun h7 B7 L7 m7 => ⟨_, rfl, ?_⟩
 have fk : ff ma (fnB nl st.lseg) = some (Aa (wraps ((D.L st.lseg).map (Ay st.lseg))), Aa (Bt (Ay st.lseg l))) := by rw [f5', if_pos rfl]
 have B7 : BV h7 q.b S5 (EO ma (fnB nl st.lseg)).2 := B7
 have wt7 := Sk W5.box.good (fnB nl st.lseg)
 have wta : wtF ma.files ≤ B.W0 + (age + 1) * B.K := B.step (d := 600000) hw (by omega) (AEu B.C)
 show PIf ((EO ma (fnB nl st.lseg)).1 != 0) _ _
 rcases Ko st5.up fk with ⟨hf0, e7⟩ | ⟨e7, st7, f7⟩
 ·rw [e7] at B7
  have e7' : Ik ma (fnB nl st.lseg) true = (30, Ii ma) := e7
  rw [e7]
  refine PIf.yes rfl ?_
  show AA A P Bb #[_, .int .i64 (Ik ma (fnB nl st.lseg) true).1] h7 _
  rw [e7']
  refine Gf (q := { q with Sb := S5 }) W5 B7 (m7.weak fun c _ hc => .inl hc) (fun c hc => .inl hc) fun h8 dn8 B8 md8 s8 => ⟨_, rfl, ?_⟩
  refine H0 hck h8 (Ii ma) ⟨(fun hh => by have := st5.calm hh; rw [hf0] at this; cases this), dn8, ⟨S5, B8, fun c hc => ?_⟩, rfl, mod5.then (md8.weak fun c _ hc => kz5 c hc), fun y hy => ?_, up3 wta⟩ fun G cr => ?_
  ·rcases s8 c hc with h1 | h1
   ·exact kz5 c h1
   ·exact .inr (by have := mod5.size; omega)
  ·rw [ABX, f5', if_neg (AFH hy _)]
  ·have hFt : ∀ n, G (tfN n) ≠ none → ff m (tfN n) ≠ none := fun n hn => by
    have h1 : ff ma (tfN n) ≠ none := cr.some hn
    rwa [f5', if_neg fun e => Iy _ n e.symm] at h1
   have rl := L.rlim lm (F' := G) (ht hFt)
   rcases AEp L.ok hsL hb (F1 := ff (Ii ma)) f5' cr with d1 | d1
   ·left
    have eb := ALE L.ok (t := max D.ltop (st.lseg + 1)) (by omega)
    have em : mapD { D with ltop := max D.ltop (st.lseg + 1) } = mapD D := by unfold mapD Cz; rw [eb]; rfl
    have ec : JZ { D with ltop := max D.ltop (st.lseg + 1) } = JZ D := by unfold JZ; rw [eb]; rfl
    refine ⟨_, d1, ⟨by show max D.ltop (st.lseg + 1) ≤ _; omega, by have := rl.ntop; show D.ntop ≤ _; omega, by have := rl.next; show (Ac D).next ≤ _; omega, by have := rl.frm; show (Ac D).frm ≤ _; omega, by have := rl.cnt; show (Ac D).names.length ≤ _; omega, by rw [ec]; have := rl.prs; omega, fun n hn => by have := rl.tfs n hn; omega⟩, by rw [em]; exact L.map⟩
   ·right
    refine ⟨_, d1, ⟨by show max D.ltop (st.lseg + 1) ≤ _; omega, by have := rl.ntop; show D.ntop ≤ _; omega, by have := rl.next; show (Ac D).next ≤ _; omega, by have := rl.frm; show (Ac D).frm ≤ _; omega, by have := rl.cnt; show (Ac D).names.length ≤ _; omega, by rw [acnt]; have := rl.prs; omega, fun n hn => by have := rl.tfs n hn; omega⟩, by rw [am2, L.map]⟩
 rw [e7]
 refine PIf.no rfl ?_
 generalize (EO ma (fnB nl st.lseg)).2 = mb at *
 have f7' : ∀ y, ff mb y = if y = fnB nl st.lseg then some (Aa (wraps ((D.L st.lseg).map (Ay st.lseg) ++ [Ay st.lseg l])), bs0) else ff m y := fun y => by
  rw [f7]
  by_cases hy : y = fnB nl st.lseg
  ·rw [if_pos hy, if_pos hy]
   simp only [CQ, AEg]
  ·rw [if_neg hy, if_neg hy, f5', if_neg hy]
 have D7 := AD2 L.ok hsL hb f7'
 have W7 := W5.boxed (j := 2) (st' := { st with lmade := true }) B7 (m7.weak fun c _ hc => .inl hc) (fun c hc => .inl hc) rfl rfl rfl rfl (.inl ⟨by decide, rfl, rfl⟩) (.inl ⟨by decide, rfl⟩)
 have mod7 : Mod (fun c => k c ≠ 0) h h7 := mod5.then (m7.weak fun c _ hc => kz5 c (by rw [W5.kb c hc]; decide))
 have k7 : ∀ c, Hz k5 h5.size S5 2 c ≠ 0 → k c ≠ 0 ∨ h.size ≤ c := fun c hc => by
  by_cases hlt : c < h5.size
  ·rw [EH hlt] at hc; exact kz5 c hc
  ·exact .inr (by have := mod5.size; omega)
 generalize Hz k5 h5.size S5 2 = kk at *
 have sty : GQ m mb := st5.trans st7
 have hfl := L.frlen lm
 have hlen64 := hb.len
 refine Loop.rule (fun mm x hh => ∃ (i : Nat) (nsi : List M.CK) (ki : Nat → Nat), x = ((i : Int), ()) ∧ mm = l.length - i ∧ i ≤ l.length ∧ DbH g hh { q with Sb := S5, ns := nsi } ki { st with lmade := true, fr := BL st.fr (l.take i) } mb ∧ Mod (fun c => k c ≠ 0) h hh ∧ (∀ c, ki c ≠ 0 → k c ≠ 0 ∨ h.size ≤ c)) ?_
  ⟨0, q.ns, kk, rfl, rfl, Nat.zero_le _, W7, mod7, k7⟩
 rintro K1 mm _ hh ⟨i, nsi, ki, rfl, rfl, hi, Wi, mdi, kki⟩ hK1
 dsimp only
 have vi := hv.mod mdi fun b hb hne => hne (hs b hb).2
 have szi := mdi.size
 refine PIf.intro (fun hq => ?_) (fun hq => ?_)
 ·have hil : i < l.length := by
   have := of_decide_eq_true hq
   have := hv.len
   omega
  have hget : l[i]? = some l[i] := List.getElem?_eq_getElem hil
  refine vi.idx hget fun a _ ca => ?_
  obtain ⟨c0, c1, c2⟩ := ca.pair
  refine AC.mk c0 (AC.mk c1 (AY.mk c2 (New.pair fun b h9 _ hb9 x9 s9 => ?_)))
  have W9 := Wi.on x9
  refine atI (AU.mk (AB W9.cell rfl) ?_)
  refine AC.mk (AJ hb9 rfl) (AC.mk (AB hb9 rfl) (AY.mk (AB hb9 rfl) ?_))
  have hpl := M.MW (l := l.take i) (t := st.fr)
  rw [List.length_take] at hpl
  refine M.AFY (x := l[i]) W9.fresh (by show (BL st.fr (l.take i)).length < _; omega) fun ns' h10 T10 m10 s10 => ⟨_, rfl, ?_⟩
  have W10 := W9.puts T10 m10 s10
  rw [AR (by omega)]
  refine hK1 (l.length - (i + 1)) _ _ (by omega) ⟨i + 1, ns', _, rfl, rfl, hil, by rw [M.X8 hget]; exact W10, (mdi.trans (Ext.mod x9)).then (m10.weak fun c _ hc => kki c (by rw [Wi.kf c hc]; decide)), fun c hc => ?_⟩
  by_cases hlt : c < h9.size
  ·rw [EH hlt] at hc; exact kki c hc
  ·exact .inr (by have := x9.size; omega)
 have hil : i = l.length := by
  have := of_decide_eq_false hq
  have := hv.len
  omega
 subst hil
 rw [List.take_length] at Wi
 clear hK1
 have hmap : BH { st with lmade := true, fr := BL st.fr l } = wrL (BH st) l := VG W.okL hg
 have L1 : DX (ff mb) { st with lmade := true, fr := BL st.fr l } (OM D st.lseg l) :=
  ⟨D7, L.names, L.tabs, L.frm, L.next, L.below, by rw [amap, ← L.fr], fun n n1 n9 hne => by
   have hne' : n ≠ st.lseg := hne rfl
   rw [f7', if_neg fun e => hne' (F5 e)]
   exact L.lout n n1 n9 fun _ => hne', fun _ => by
   show ff mb (fnB nl st.lseg) = some (Aa (wraps ((Hl D.L st.lseg (D.L st.lseg ++ [l]) st.lseg).map (Ay st.lseg))), bs0)
   rw [f7', if_pos rfl, CO, List.map_append]; rfl, fun n n1 n9 => by
   rw [f7', if_neg fun e => Qa _ n e.symm]; exact L.nout n n1 n9, L.lfrm, L.nseg, fun n hn => by
   rw [f7', if_neg fun e => Iy _ n e.symm] at hn; exact L.clean n hn⟩
 have lim1 : Ob { st with lmade := true, fr := BL st.fr l } (OM D st.lseg l) (age + 1) (c + l.length) :=
  ⟨by show st.lseg ≤ _; omega, by have := lm.nseg; show st.nseg ≤ _; omega, by have := lm.next; show st.next ≤ _; omega, by have := lm.cnt; show st.ts.length ≤ _; omega, by rw [acnt]; have := lm.prs; omega, by show max D.ltop (st.lseg + 1) ≤ _; omega, by have := lm.ntop; show D.ntop ≤ _; omega⟩
 have S1 : BA B g hh { q with Sb := S5, ns := nsi } ki { st with lmade := true, fr := BL st.fr l } mb (OM D st.lseg l) (age + 1) (c + l.length) :=
  ⟨Wi, sty.up, L1, lim1, Nat.le_trans wt7 wta, hC⟩
 have oth1 : ∀ y, ¬ Mine y → ff mb y = ff m y := fun y hy => by rw [f7', if_neg (AFH hy _)]
 refine Join.mk fun K2 hK2 => ?_
 refine atI (AU.mk (AB Wi.cell rfl) ?_)
 refine M.AFy Wi.fresh ⟨_, _, rfl, ?_⟩
 refine PIf.intro (fun hq2 => ?_) (fun hq2 => ?_)
 ·have hfull : 4096 ≤ M.DF (BL st.fr l) := by
   have := of_decide_eq_true hq2
   have e : M.DF ({ st with lmade := true, fr := BL st.fr l } : Db).fr = M.DF (BL st.fr l) := rfl
   omega
  refine ACA (q := { q with Sb := S5, ns := nsi }) E S1 (by omega) (fun h' m' fe rc => ⟨_, rfl, hK2 _ _ ?_⟩) fun h' q' k' st' m' D' e1 e2 S' sty' fr' mp' ln' oth' md' kk' => ⟨_, rfl, hK2 _ _ ?_⟩
  ·rw [hmap] at rc
   obtain ⟨S', B', s'⟩ := fe.box
   refine H2 hck h' m' ⟨fun hh => fe.fuel (sty.calm hh), fe.dn, ⟨S', B', fun c hc => ?_⟩, fe.down, mdi.then (fe.mod.weak fun c _ hc => kki c hc), fun y hy => (fe.oth y hy).trans (oth1 y hy), fe.wt⟩ rc
   rcases s' c hc with h1 | h1
   ·exact kki c h1
   ·exact .inr (by omega)
  ·refine H1 hck h' q' k' st' m' D' e1 e2 S' (sty.trans sty') ⟨mp'.trans hmap, fun _ => ⟨fr', ln'⟩, fun h => absurd h (by omega)⟩ (fun y hy => (oth' y hy).trans (oth1 y hy)) (mdi.then (md'.weak fun c _ hc => kki c hc)) fun c hc => ?_
   rcases kk' c hc with h1 | h1
   ·exact kki c h1
   ·exact .inr (by omega)
 ·have hless : M.DF (BL st.fr l) < 4096 := by
   have := of_decide_eq_false hq2
   have e : M.DF ({ st with lmade := true, fr := BL st.fr l } : Db).fr = M.DF (BL st.fr l) := rfl
   omega
  refine hK2 _ _ ?_
  exact H1 hck hh { q with Sb := S5, ns := nsi } ki _ mb _ rfl rfl (S1.age (by omega)) sty ⟨hmap, fun h => absurd h (by omega), fun _ => ⟨rfl, rfl⟩⟩ oth1 mdi kki
end
end Go.Lf.G

/-
 Contract: tables that are none go (chapter 9).
-/
set_option maxRecDepth 100000
set_option linter.unusedVariables false
set_option linter.unusedSimpArgs false
namespace Go.Lf.G
open Go
theorem AFM : ∀ (l : List UInt8) (a : Nat), Dig l → OW a l ≤ 999999999999 → Lib.parseUint10 a l = .ok (OW a l)
 | [], a, _, _ => rfl
 | c :: l, a, hd, hv => by
  have h : OW a (c :: l) = OW (a * 10 + (c.toNat - 48)) l := rfl
  rw [h] at hv ⊢
  have hc := hd c (by simp)
  have hg := ABH l (a * 10 + (c.toNat - 48))
  unfold Lib.parseUint10
  rw [if_pos hc, if_neg (by omega), if_neg (by omega)]
  exact AFM l _ (fun x hx => hd x (List.mem_cons_of_mem _ hx)) hv
theorem AIO {n : Nat} (hn : n ≤ 999999999999) : Lib.atoiAll (Lib.decDigits n) = .ok (n : Int) := by
 obtain ⟨h1, h2⟩ := Sm n
 cases hl : Lib.decDigits n with
 | nil =>
  have := congrArg List.length hl
  rw [Lib.decDigits_length] at this
  have := Lib.nDigits_pos n
  simp at *; omega
 | cons c r =>
  rw [hl] at h1 h2
  have hc := h1 c (by simp)
  have hp := AFM (c :: r) 0 h1 (by rw [h2]; exact hn)
  rw [h2] at hp
  unfold Lib.atoiAll
  simp only []
  have e1 : ¬ (c.toNat = 43 ∨ c.toNat = 45) := by omega
  have e2 : ¬ c.toNat = 45 := by omega
  rw [if_neg e1]
  unfold Lib.parseMag
  rw [if_neg (by simp), hp]
  simp only [e2, not_false_eq_true, true_and, false_and, if_false]
  rw [if_neg (by omega)]
theorem AI8 {A : Amb} {h : Heap} {n : Nat} {R : Value → Heap → Prop} (hn : n ≤ 999999999999) (H : ∀ h', Ext h h' → R (.tuple #[.int .i64 (n : Int), .nilIface]) h') : AA A P Pk #[.string (Aa (Lib.decDigits n))] h R := by
 intro m
 have h20 : (Lib.decDigits n).length ≤ 20 := by rw [Lib.decDigits_length]; exact Lib.nDigits_le20 n (by omega)
 refine Calls.mono (Proofs.Any.strconv_Atoi_ok Proofs.Tryz.laysC172 (Aa (Lib.decDigits n)) (by rw [AV]; omega) (n : Int) (by rw [show (Aa (Lib.decDigits n)).data.toList = Lib.decDigits n from Dk _]; exact AIO hn) (A.at h m)) ?_
 rintro e w' ⟨rfl, hw | ⟨t, hw⟩⟩
 ·subst hw
  exact ⟨_, rfl, h, m, rfl, H h Mod.refl⟩
 ·subst hw
  refine ⟨_, rfl, _, _, rfl, H _ ?_⟩
  refine ⟨?_, fun b hb _ => ?_⟩
  ·simp [Lib.bytesWorld, World.freeze, World.alloc, World.drew, Amb.at]
  ·simp [Lib.bytesWorld, World.freeze, World.alloc, World.drew, Amb.at, Array.getElem?_modify, Array.getElem?_push]
   rw [if_neg (by omega), if_neg (by omega)]
theorem ACQ {A : Amb} {h : Heap} {s : Sl} {l : List Int} {v : Int} {R : Value → Heap → Prop} (hv : View EZ h s l) (hl : l.length ≤ 1000000) (H : R (.bool (decide (v ∈ l))) h) : AA A P CV #[.slice s.p s.len s.cap, .int .i64 v] h R := by
 refine Ij ?_
 unfold DR
 refine Jf ?_
 unfold Dv
 refine Loop.rule (fun mm x hh => ∃ i : Nat, x = ((i : Int), ()) ∧ mm = l.length - i ∧ i ≤ l.length ∧ hh = h ∧ v ∉ l.take i) ?_ ⟨0, rfl, rfl, Nat.zero_le _, rfl, by simp⟩
 rintro K mm _ _ ⟨i, rfl, rfl, hi, rfl, hno⟩ hK
 dsimp only
 rw [hv.len]
 refine PIf.intro (fun hq => ?_) (fun hq => ?_)
 ·have hil : i < l.length := by have := of_decide_eq_true hq; omega
  have hget : l[i]? = some l[i] := List.getElem?_eq_getElem hil
  rw [← hv.len]
  refine hv.idx hget fun a _ c => AZ.mk c.int ?_
  refine PIf.intro (fun q => ?_) (fun q => ?_)
  ·have e : v = l[i] := by simpa using q
   refine ⟨_, rfl, ?_⟩
   rw [decide_eq_true (show ((i : Int) ≥ 0) by omega)]
   rwa [decide_eq_true (show v ∈ l by rw [e]; exact List.getElem_mem hil)] at H
  ·have e : v ≠ l[i] := by simpa using q
   rw [AR (by omega)]
   refine hK (l.length - (i + 1)) _ _ (by omega) ⟨i + 1, rfl, rfl, hil, rfl, ?_⟩
   rw [List.take_add_one, hget]
   simp only [Option.toList_some, List.mem_append, List.mem_singleton, not_or]
   exact ⟨hno, e⟩
 ·have hil : i = l.length := by have := of_decide_eq_false hq; omega
  subst hil
  rw [List.take_length] at hno
  refine ⟨_, rfl, ?_⟩
  rwa [decide_eq_false hno] at H
section
variable {A : Amb} {g h : Heap} {q : Hp} {k : Nat → Nat} {st : Db} {m : Bx} {D : BK} {R : Value → Heap → Prop}
theorem AEz (W : DbH g h q k st m) (n : Nat) : Ic k n q.tp q.np (fun _ => False) = k := by
 funext c
 unfold Ic
 by_cases e : k c = 0
 ·rw [if_neg (by simp [e]), if_neg (fun h => by have := W.kt c h; rw [e] at this; cases this), if_neg (fun h => by have := W.kx c h; rw [e] at this; cases this), if_neg (fun h => h), e]
 ·rw [if_pos e]
theorem DbH.renext {h' : Heap} {next : Nat} (W : DbH g h q k st m) (hc : h'[q.d]? = some (.cells (dbC q { st with next := next } false) De (0, 0))) (x : Mod (· = q.d) h h') : DbH g h' q k { st with next := next } m := by
 have R := W.rest (C := fun c => c = 1) (h' := h') (x.weak fun c _ hc => by rw [hc]; exact W.kd) (by decide)
 have := W.retab (h' := h') (tp := q.tp) (np := q.np) (ps := q.ps) (ts := st.ts) (next := next) (frm := st.frm) (S := fun _ => False) hc (x.weak fun c _ hc => .inl hc) (R.tabs (by decide)) (R.names (by decide)) W.tlen (fun c hc => .inl hc) (fun c hc => .inl hc) (fun c h => h.elim) (fun i t p h1 h2 => .inl ⟨i, h1, h2⟩)
 rw [AEz W] at this
 exact this
theorem AJE {m : Bx} {x : ByteArray} : ff m x ≠ none ↔ x ∈ m.files.map (·.name) := by
 rw [← Wl (k := x), Pw]
 cases ff m x <;> simp
theorem AIM {s : ByteArray} (h : (sAt s 0 != (116 : Int)) = false) (hs : 2 ≤ s.size) : (bl s).head? = some 116 := by
 have e : bl s = s.data.toList := rfl
 have hsz := Bz s
 cases hl : bl s with
 | nil => rw [hl] at hsz; simp at hsz; omega
 | cons c r =>
  have h1 : sAt s 0 = 116 := by simpa using h
  have hc : s.data.toList[0]? = some c := by rw [← e, hl]; rfl
  have h2 : (c.toNat : Int) = 116 := by
   have := NZ (i := 0) hc
   rw [← h1]; exact this.symm
  have h3 : c.toNat = 116 := by omega
  have : c = 116 := by
   apply UInt8.toNat_inj.1
   rw [h3]; rfl
  rw [this]; rfl
theorem AHl {N : Nat} (E : Evn g) (W : DbH g h q k st m) (hd : m.down = false) (hD : Ap (ff m) D) (hnm : (Ac D).names = st.ts.map (·.1)) (hN : N ≤ 99999999) (ht : ∀ n, ff m (tfN n) ≠ none → n < N) (hnx : st.next ≤ N) (hts : st.ts.length ≤ 100000) (hfl : m.files.length ≤ 8000000000000)
  (H0 : m.fuel ≠ -1 → ∀ h' S' m', BV h' q.b S' m' → m'.down = true → Mod (fun c => k c ≠ 0) h h' → (∀ c, S' c → k c ≠ 0 ∨ h.size ≤ c) → Ap (ff m') D → (∀ y, (∀ n, y ≠ tfN n) → ff m' y = ff m y) → (∀ n, ff m' (tfN n) ≠ none → ff m (tfN n) ≠ none) → wtF m'.files ≤ wtF m.files → R (.int .i64 30) h')
  (H1 : ∀ h' S' k' m' next', DbH g h' { q with Sb := S' } k' { st with next := next' } m' → GQ m m' → Ap (ff m') D → (∀ y, (∀ n, y ≠ tfN n) → ff m' y = ff m y) → (∀ n, ff m' (tfN n) ≠ none → n ∈ st.ts.map (·.1)) → st.next ≤ next' → next' ≤ N → wtF m'.files ≤ wtF m.files →
   Mod (fun c => k c ≠ 0) h h' → (∀ c, k' c ≠ 0 → k c ≠ 0 ∨ h.size ≤ c) → R (.int .i64 0) h') : AA A P IU #[BC q.d] h R := by
 refine VT ?_
 unfold Kq
 refine atI (AU.mk (AJ W.cell rfl) ?_)
 refine ADX W.box fun s1 h1 o1 x1 f1 => ⟨s1, _, rfl, ?_⟩
 have hL : X9 m = (m.files.map (·.name), 0) := by unfold X9; rw [if_neg (by simp [hd])]
 rw [hL] at o1 ⊢
 refine PIf.no rfl ?_
 dsimp only at o1
 have hnd := AC4 W.box.good
 have hin := fun x => AJE (m := m) (x := x)
 have hlenF : (m.files.map (·.name)).length ≤ 8000000000000 := by simpa using hfl
 generalize m.files.map (·.name) = fs at *
 have W1 := W.on x1
 have sz1 := x1.size
 have v1 := o1.view
 refine Loop.rule (fun mm x hh => ∃ (i : Nat) (Si : Nat → Prop) (ki : Nat → Nat) (mi : Bx) (next : Nat), x = ((i : Int), ()) ∧ mm = fs.length - i ∧ i ≤ fs.length ∧ DbH g hh { q with Sb := Si } ki { st with next := next } mi ∧ GQ m mi ∧ Ap (ff mi) D ∧ (∀ y, (∀ n, y ≠ tfN n) → ff mi y = ff m y) ∧ (∀ y, y ∉ fs.take i → ff mi y = ff m y) ∧
   (∀ n, tfN n ∈ fs.take i → n ∉ st.ts.map (·.1) → ff mi (tfN n) = none) ∧ (∀ n, ff mi (tfN n) ≠ none → ff m (tfN n) ≠ none) ∧ st.next ≤ next ∧ next ≤ N ∧ wtF mi.files ≤ wtF m.files ∧ Mod (fun c => k c ≠ 0) h1 hh ∧ Grow k ki h1.size) ?_
  ⟨0, q.Sb, k, m, st.next, rfl, rfl, Nat.zero_le _, W1, GQ.refl hd, hD, fun _ _ => rfl, fun _ _ => rfl, by simp, fun _ h => h, Nat.le_refl _, hnx, Nat.le_refl _, Mod.refl, Grow.refl⟩
 rintro K mm _ hh ⟨i, Si, ki, mi, next, rfl, rfl, hi, Wi, sti, dki, fri, keep, gone, sub, n1, n2, wti, mdi, gri⟩ hK
 dsimp only
 have szi := mdi.size
 have kown : ∀ c, ki c ≠ 0 → k c ≠ 0 ∨ h.size ≤ c := fun c hc => by
  by_cases hlt : c < h1.size
  ·rw [gri c hlt] at hc; exact .inl hc
  ·exact .inr (by omega)
 have s1k : ∀ c, s1.blk = some c → k c = 0 := fun c hc => Decidable.byContradiction fun h => by
  have := (W.own c h).2
  have := f1 c hc; omega
 have vi : View EC hh s1 fs := v1.mod mdi fun c hc hne => hne (s1k c hc)
 rw [v1.len]
 refine PIf.intro (fun hq => ?_) (fun hq => ?_)
 ·have hil : i < fs.length := by have := of_decide_eq_true hq; omega
  have hget : fs[i]? = some fs[i] := List.getElem?_eq_getElem hil
  have hmem : fs[i] ∈ fs := List.getElem_mem hil
  have htk : fs.take (i + 1) = fs.take i ++ [fs[i]] := by rw [List.take_add_one, hget]; rfl
  have hni : fs[i] ∉ fs.take i := fun hm => by
   obtain ⟨j, hj, e⟩ := List.getElem_of_mem hm
   have hj' : j < i := by
    have := hj
    simp at this; omega
   rw [List.getElem_take] at e
   have := (List.getElem_inj (h₀ := by omega) (h₁ := hil) hnd).1 e
   omega
  rw [AR (by omega)]
  refine Join.mk fun K1 hK1 => ?_
  rw [← v1.len]
  refine vi.idx hget fun a _ c => AC.mk c.str ?_
  have skip : ∀ h5 k5, DbH g h5 { q with Sb := Si } k5 { st with next := next } mi → Mod (fun c => k c ≠ 0) h1 h5 → Grow k k5 h1.size → (∀ n, fs[i] = tfN n → n ∈ st.ts.map (·.1)) → K1 () h5 := fun h5 k5 W5 md5 gr5 hno => hK1 _ _ (by
   refine hK (fs.length - (i + 1)) _ _ (by omega) ⟨i + 1, Si, k5, mi, next, rfl, rfl, hil, W5, sti, dki, fri, fun y hy => keep y fun hm => hy (by rw [htk]; exact List.mem_append.2 (.inl hm)), fun n hn hno' => ?_, sub, n1, n2, wti, md5, gr5⟩
   rw [htk] at hn
   rcases List.mem_append.1 hn with hn | hn
   ·exact gone n hn hno'
   ·exact absurd (hno n (List.mem_singleton.1 hn).symm) hno')
  refine Join.mk fun K2 hK2 => ?_
  have notT : (∀ n, fs[i] ≠ tfN n) → K2 (true, ()) hh := fun hno => hK2 _ _ (PIf.yes rfl (skip hh ki Wi mdi gri fun n e => absurd e (hno n)))
  have tsz : ∀ n, 2 ≤ (tfN n).size := fun n => by
   have h1 := Bz (tfN n)
   rw [RX] at h1
   have h2 := Lib.nDigits_pos n
   have h3 := Lib.decDigits_length n
   rw [List.length_cons] at h1
   omega
  refine PIf.intro (fun q1 => ?_) (fun q1 => ?_)
  ·have h2 := of_decide_eq_true q1
   exact notT fun n e => by have := tsz n; rw [← e] at this; omega
  ·have h2 : 2 ≤ fs[i].size := by have := of_decide_eq_false q1; omega
   refine ⟨⟨Int.le_refl _, by omega⟩, ?_⟩
   cases hb : (sAt fs[i] 0 != (116 : Int)) with
   | true =>
    refine notT fun n e => ?_
    have : sAt fs[i] 0 = 116 := by
     rw [e]
     have := NZ (s := tfN n) (i := 0) (c := 116) (by
      have h3 := RX n
      show (bl (tfN n))[0]? = _
      rw [h3]; rfl)
     exact this
    rw [this] at hb; cases hb
   | false =>
    obtain ⟨n, en⟩ := hD.tonly fs[i] ((hin _).2 hmem) (AIM hb h2)
    have hfn : ff m (tfN n) ≠ none := by rw [← en]; exact (hin _).2 hmem
    have hnN := ht n hfn
    refine hK2 _ _ (PIf.no rfl ⟨⟨by omega, by omega⟩, ?_⟩)
    have eS : fs[i].extract ((1 : Int).toNat) fs[i].size = Aa (Lib.decDigits n) := by
     rw [show (1 : Int).toNat = 1 from rfl, V5, en]
     have : (tfN n).data.toList = 116 :: Lib.decDigits n := RX n
     rw [this]; rfl
    rw [eS]
    refine AI8 (by omega) fun h5 x5 => ⟨_, _, rfl, ?_⟩
    have W5 := Wi.on x5
    have md5 := mdi.trans (Ext.mod x5)
    refine Join.mk fun K3 hK3 => ⟨trivial, PIf.yes rfl ?_⟩
    refine MI (W5.evn E) (by omega) fun h9 x9 => ⟨_, rfl, ?_⟩
    have W9 := W5.on x9
    have md9 := md5.trans (Ext.mod x9)
    have hsE : sEq (tfN n) fs[i] = true := by rw [en, BR]; exact decide_eq_true rfl
    rw [hsE]
    refine PIf.yes rfl (atI (AQ.mk (s := q.np) (AB W9.cell rfl) ?_))
    refine ACQ W9.names.view (by simp [nmS]; omega) ⟨_, rfl, ?_⟩
    have emem : ((n : Int) ∈ nmS ({ st with next := next } : Db)) ↔ n ∈ st.ts.map (·.1) := by
     simp only [nmS, List.mem_map]
     constructor
     ·rintro ⟨p, hp, e⟩; exact ⟨p, hp, by omega⟩
     ·rintro ⟨p, hp, e⟩; exact ⟨p, hp, by omega⟩
    by_cases hm : n ∈ st.ts.map (·.1)
    ·rw [decide_eq_true (emem.2 hm)]
     exact hK3 _ _ (PIf.no rfl (skip h9 ki W9 md9 gri fun n' e => by rw [en] at e; rw [← Gl e]; exact hm))
    rw [decide_eq_false fun h => hm (emem.1 h)]
    refine hK3 _ _ (PIf.yes rfl ?_)
    refine atI (AU.mk (AJ W9.cell rfl) ?_)
    have hsome : (ff mi (tfN n)).isSome = true := by
     rw [keep (tfN n) (by rw [← en]; exact hni)]
     cases hf : ff m (tfN n) with
     | none => exact absurd hf hfn
     | some p => rfl
    rw [en]
    refine RY W9.box fun h10 S10 B10 m10 s10 => ⟨_, rfl, ?_⟩
    have md10 : Mod (fun c => k c ≠ 0) h1 h10 := md9.then (m10.weak fun c _ hc => by
     have hkc : ki c ≠ 0 := by rw [Wi.kb c hc]; decide
     by_cases hlt : c < h1.size
     ·rw [gri c hlt] at hkc; exact .inl hkc
     ·exact .inr (by omega))
    have sz9 := (x5.trans x9).size
    rcases NL (k := tfN n) sti.up hsome with ⟨hf0, e10⟩ | ⟨e10, st10, f10⟩
    ·rw [e10] at B10 ⊢
     refine PIf.yes rfl ?_
     refine H0 (fun hh => by have := sti.calm hh; rw [hf0] at this; cases this) h10 S10 (Ii mi) B10 rfl ((Ext.mod x1).trans md10) (fun c hc => ?_) dki fri sub wti
     exact kown c (by
      have := Wi.kb c (s10 c hc)
      rw [this]; decide)
    ·rw [e10]
     refine PIf.no rfl ?_
     have W10 := W9.boxed (j := 2) (st' := { st with next := next }) B10 (m10.weak fun c _ hc => .inl hc) (fun c hc => .inl (s10 c hc)) rfl rfl rfl rfl (.inl ⟨by decide, rfl, rfl⟩) (.inl ⟨by decide, rfl⟩)
     refine atI (AZ.mk (AB W10.cell rfl) ?_)
     have ew : IntKind.wrap .i64 ((n : Int) + (1 : Int)) = ((n + 1 : Nat) : Int) := AR (by omega)
     rw [ew]
     have emax : (if (((n + 1 : Nat) : Int) : Int) > ((next : Nat) : Int) then ((n + 1 : Nat) : Int) else ((next : Nat) : Int)) = ((max (n + 1) next : Nat) : Int) := by split <;> omega
     refine atI (Store.mk1 W10.cell (by simp) fun h11 hb11 m11 s11 => ?_)
     rw [emax] at hb11
     have W11 := W10.renext (h' := h11) (next := max (n + 1) next) (by simpa [dbC] using hb11) m11
     have gr11 : Grow k (Hz ki h9.size S10 2) h1.size := fun c hc => by rw [EH (by omega)]; exact gri c hc
     have wt10 := UF (m := mi) (tfN n)
     refine hK1 _ _ ?_
     refine hK (fs.length - (i + 1)) _ _ (by omega) ⟨i + 1, S10, _, _, max (n + 1) next, rfl, rfl, hil, W11, sti.trans st10, ?_, fun y hy => ?_, fun y hy => ?_, fun n' hn' hno' => ?_, fun n' hn' => ?_, by omega, by omega, Nat.le_trans wt10 wti, ?_, gr11⟩
     ·refine dki.tput fun x hx => ?_
      rw [f10, if_neg (hx n (by rw [hnm]; exact hm))]
     ·rw [f10, if_neg (hy n)]; exact fri y hy
     ·rw [htk] at hy
      simp only [List.mem_append, List.mem_singleton, not_or] at hy
      rw [f10, if_neg (by rw [← en]; exact hy.2)]
      exact keep y hy.1
     ·rw [f10]
      split
      ·rfl
      ·rename_i hne
       rw [htk] at hn'
       rcases List.mem_append.1 hn' with h3 | h3
       ·exact gone n' h3 hno'
       ·exact absurd ((List.mem_singleton.1 h3).trans en) hne
     ·rw [f10] at hn'
      split at hn'
      ·exact absurd rfl hn'
      ·exact sub n' hn'
     ·refine md10.trans (m11.weak fun c _ hc => ?_)
      have : c = q.d := hc
      rw [this, W.kd]; decide
 ·have hil : i = fs.length := by have := of_decide_eq_false hq; omega
  subst hil
  rw [List.take_length] at keep gone
  refine H1 hh Si ki mi next Wi sti dki fri (fun n hn => ?_) n1 n2 wti ((Ext.mod x1).trans mdi) kown
  by_cases hm : n ∈ st.ts.map (·.1)
  ·exact hm
  ·exact absurd (gone n ((hin _).1 (sub n hn)) hm) hn
end
end Go.Lf.G

/-
 A store as it is opened (chapter 9): its logs' records, its parts put together.
-/
set_option maxRecDepth 100000
set_option linter.unusedVariables false
set_option linter.unusedSimpArgs false
namespace Go.Lf.G
open Go
open M (Sorted Ah Df BL Al BF CZ Au OkL Bo)
theorem AIk {α : Type} {R : Nat → List α} {l : List Nat} {top : Nat} (hl : l.Pairwise (· < ·)) (h1 : ∀ n ∈ l, n < top) (h2 : ∀ n, n < top → n ∉ l → R n = []) : (List.range top).flatMap R = l.flatMap R := by
 have e : l = (List.range top).filter fun n => decide (n ∈ l) := by
  refine AFr hl (List.pairwise_lt_range.sublist List.filter_sublist) fun n => ?_
  simp only [List.mem_filter, List.mem_range, decide_eq_true_eq]
  exact ⟨fun h => ⟨h1 n h, h⟩, fun h => h.2⟩
 have key : ∀ L : List Nat, (∀ n ∈ L, n < top) → L.flatMap R = (L.filter fun n => decide (n ∈ l)).flatMap R := by
  intro L
  induction L with
  | nil => intro _; rfl
  | cons n L ih =>
   intro hL
   rw [List.flatMap_cons, List.filter_cons, ih fun m hm => hL m (List.mem_cons_of_mem _ hm)]
   by_cases h : n ∈ l
   ·rw [if_pos (by simpa using h), List.flatMap_cons]
   ·rw [if_neg (by simpa using h), h2 n (hL n (by simp)) h, List.nil_append]
 rw [key _ fun n hn => List.mem_range.1 hn, ← e]
theorem AHa {l : List Nat} (hl : l.Pairwise (· < ·)) {n : Nat} (hn : n ∈ l) : n ≤ l.getLast?.getD 0 := by
 cases hg : l.getLast? with
 | none =>
  rw [List.getLast?_eq_none_iff] at hg
  subst hg; cases hn
 | some x =>
  show n ≤ x
  obtain ⟨ys, rfl⟩ := List.getLast?_eq_some_iff.1 hg
  rcases List.mem_append.1 hn with h | h
  ·exact Nat.le_of_lt ((List.pairwise_append.1 hl).2.2 n h x (by simp))
  ·rw [List.mem_singleton.1 h]; exact Nat.le_refl _
theorem TQ {m : Bx} {nm : ByteArray} {top : Nat} {R : Nat → List (List UInt8)} {l : List Nat} (hd : m.down = false) (SF : Q4 (ff m) nm top R) (SL : AI2 nm m l) (ht : 1 ≤ top ∧ top ≤ 99999999) :
  OB nm m l = ((List.range top).flatMap R).map Aa ∧ l.getLast?.getD 0 + 1 ≤ top ∧ (∀ n, l.getLast?.getD 0 + 1 ≤ n → n ≤ 99999999 → ff m (fnB nm n) = none) := by
 have hmem : ∀ n, 1 ≤ n → n ≤ 99999999 → (n ∈ l ↔ ff m (fnB nm n) ≠ none) := fun n n1 n9 => by
  rw [SL.mem, Pw]
  constructor
  ·rintro ⟨_, _, h⟩ e; rw [e] at h; cases h
  ·intro h
   refine ⟨n1, n9, ?_⟩
   cases hf : ff m (fnB nm n) with
   | none => exact absurd hf h
   | some p => rfl
 have hlt : ∀ n ∈ l, n < top := fun n hn => by
  obtain ⟨n1, n9, _⟩ := (SL.mem n).1 hn
  have h1 := (hmem n n1 n9).1 hn
  exact Decidable.byContradiction fun h => h1 (SF.out n (by omega) n9)
 have h1 : OB nm m l = l.flatMap fun n => (R n).map Aa := AJp hd fun n hn => by
  obtain ⟨n1, n9, _⟩ := (SL.mem n).1 hn
  have h1 := (hmem n n1 n9).1 hn
  cases hf : ff m (fnB nm n) with
  | none => exact absurd hf h1
  | some p =>
   obtain ⟨h2, h3⟩ := SF.has n p n1 n9 hf
   refine ⟨p, rfl, ?_⟩
   rw [h2, NT, List.map_map]
   have : (R n).map (bl ∘ Aa) = R n := by
    conv => rhs; rw [← List.map_id (R n)]
    exact List.map_congr_left fun x _ => HV x
   rw [this]; exact h3
 refine ⟨?_, ?_, fun n hn n9 => ?_⟩
 ·rw [h1, List.map_flatMap]
  refine (AIk SL.inc hlt fun n hn hno => ?_).symm
  by_cases n0 : n = 0
  ·rw [SF.far n (.inl n0)]; rfl
  ·have hf : ff m (fnB nm n) = none := Decidable.byContradiction fun h => hno ((hmem n (by omega) (by omega)).2 h)
   rw [SF.non n (by omega) (by omega) hf]; rfl
 ·cases hg : l.getLast? with
  | none => show 0 + 1 ≤ top; omega
  | some x =>
   have := hlt x (List.mem_of_getLast? hg)
   show x + 1 ≤ top; omega
 ·exact Decidable.byContradiction fun h => by
   have := AHa SL.inc ((hmem n (by omega) n9).2 h)
   omega
open Classical in
noncomputable def kM (Sb : Nat → Prop) (N0 nt ft d lg : Nat) (tp np : Sl) (I T : Nat → Prop) : Nat → Nat := fun c =>
 if Sb c then 2 else if c < N0 then 0 else if c = nt then 4 else if c = ft then 5 else if c = d then 1 else if c = lg then 3 else if tp.blk = some c then 6 else if np.blk = some c then 7 else if I c then 5 else if T c then 8 else 0
theorem ACZ {Sb : Nat → Prop} {N0 nt ft d lg : Nat} {tp np : Sl} {I T : Nat → Prop} {c : Nat} (hc : kM Sb N0 nt ft d lg tp np I T c ≠ 0) : Sb c ∨ (N0 ≤ c ∧ (c = nt ∨ c = ft ∨ c = d ∨ c = lg ∨ tp.blk = some c ∨ np.blk = some c ∨ I c ∨ T c)) := by
 by_cases a : Sb c
 ·exact .inl a
 by_cases b : c < N0
 ·exact absurd (by unfold kM; rw [if_neg a, if_pos b]) hc
 refine .inr ⟨by omega, Classical.byContradiction fun hn => hc ?_⟩
 simp only [not_or] at hn
 obtain ⟨n1, n2, n3, n4, n5, n6, n7, n8⟩ := hn
 unfold kM
 rw [if_neg a, if_neg b, if_neg n1, if_neg n2, if_neg n3, if_neg n4, if_neg n5, if_neg n6, if_neg n7, if_neg n8]
theorem DbH.make {g h : Heap} {q : Hp} {st : Db} {m : Bx} {N0 NB NC ND : Nat} (cell : h[q.d]? = some (.cells (dbC q st false) De (0, 0))) (box : BV h q.b q.Sb m) (log : Cv h q.lg q.b nl st.lseg st.lmade) (nts : Cv h q.nt q.b nn st.nseg false) (fresh : M.Tab h q.ft q.ns st.fr)
  (tabs : Own PtE Aq h q.tp q.ps) (tlen : q.ps.length = st.ts.length) (names : Own EZ BO h q.np (nmS st)) (ext : Ext g h) (hg : g.size ≤ N0) (hSb : ∀ c, q.Sb c → g.size ≤ c ∧ c < N0)
  (h1 : N0 ≤ q.nt) (h2 : q.nt < q.ft) (h3 : q.ft < q.d) (h4 : q.d < NB) (h5 : NB ≤ NC) (h6 : NC ≤ q.lg) (h7 : q.lg < ND) (hnp : ∀ c, q.np.blk = some c → q.d < c ∧ c < NB) (htp : ∀ c, q.tp.blk = some c → NB ≤ c ∧ c < NC) (hns : ∀ c, M.inT q.ft q.ns c → c = q.ft ∨ ND ≤ c)
  (tab : ∀ (i : Nat) (t : Nat) (p : Nat × List Pr), q.ps[i]? = some t → st.ts[i]? = some p → ∃ lo hi, TabAt h t p.2 (JS p.2) lo hi ∧ NB ≤ lo ∧ hi ≤ NC ∧ (∀ c, q.tp.blk = some c → ¬ (lo ≤ c ∧ c < hi)) ∧ Eu p.2) (hNC : NC ≤ h.size) :
  ∃ k, DbH g h q k st m ∧ ∀ c, k c ≠ 0 → q.Sb c ∨ N0 ≤ c := by
 let T : Nat → Prop := fun c => (NB ≤ c ∧ c < NC) ∧ q.tp.blk ≠ some c
 have big0 : ∀ c, N0 ≤ c → ¬ q.Sb c := fun c hc hs => by have := (hSb c hs).2; omega
 refine ⟨kM q.Sb N0 q.nt q.ft q.d q.lg q.tp q.np (M.inT q.ft q.ns) T, ⟨cell, box, log, nts, fresh, tabs, tlen, fun i t p e1 e2 => ?_, names, ?_, fun c hc => ?_, ?_, ?_, fun c hc => ?_, fun c hc => ?_, fun c hc => ?_, fun c hc => ?_, ext⟩, fun c hc => ?_⟩
 ·obtain ⟨lo, hi, T1, t1, t2, t3, t4⟩ := tab i t p e1 e2
  refine ⟨lo, hi, T1, by omega, fun c c1 c2 => ?_, t4⟩
  have hT : T c := ⟨⟨by omega, by omega⟩, fun e => t3 c e ⟨c1, c2⟩⟩
  have hnI : ¬ M.inT q.ft q.ns c := fun hI => by rcases hns c hI with h | h <;> omega
  unfold kM
  rw [if_neg (big0 c (by omega)), if_neg (by omega), if_neg (by omega), if_neg (by omega), if_neg (by omega), if_neg (by omega), if_neg hT.2, if_neg (fun e => by have := hnp c e; omega), if_neg hnI, if_pos hT]
 ·unfold kM
  rw [if_neg (big0 _ (by omega)), if_neg (by omega), if_neg (by omega), if_neg (by omega), if_pos rfl]
 ·unfold kM; rw [if_pos hc]
 ·unfold kM
  rw [if_neg (big0 _ (by omega)), if_neg (by omega), if_neg (by omega), if_neg (by omega), if_neg (by omega), if_pos rfl]
 ·unfold kM
  rw [if_neg (big0 _ (by omega)), if_neg (by omega), if_pos rfl]
 ·unfold kM
  rcases hns c hc with rfl | h
  ·rw [if_neg (big0 _ (by omega)), if_neg (by omega), if_neg (by omega), if_pos rfl]
  ·rw [if_neg (big0 c (by omega)), if_neg (by omega), if_neg (by omega), if_neg (by omega), if_neg (by omega), if_neg (by omega), if_neg (fun e => by have := htp c e; omega), if_neg (fun e => by have := hnp c e; omega), if_pos hc]
 ·have := htp c hc
  unfold kM
  rw [if_neg (big0 c (by omega)), if_neg (by omega), if_neg (by omega), if_neg (by omega), if_neg (by omega), if_neg (by omega), if_pos hc]
 ·have := hnp c hc
  unfold kM
  rw [if_neg (big0 c (by omega)), if_neg (by omega), if_neg (by omega), if_neg (by omega), if_neg (by omega), if_neg (by omega), if_neg (fun e => by have := htp c e; omega), if_pos hc]
 ·rcases ACZ hc with hs | ⟨hN, e | e | e | e | e | e | e | e⟩
  ·exact ⟨(hSb c hs).1, box.lt hs⟩
  ·exact ⟨by omega, by rw [e]; exact Am nts⟩
  ·exact ⟨by omega, by rw [e]; exact fresh.lt (.inl rfl)⟩
  ·exact ⟨by omega, by rw [e]; exact Am cell⟩
  ·exact ⟨by omega, by rw [e]; exact Am log⟩
  ·exact ⟨by omega, tabs.lt e⟩
  ·exact ⟨by omega, names.lt e⟩
  ·exact ⟨by omega, fresh.lt e⟩
  ·exact ⟨by omega, by have := e.1.2; omega⟩
 ·exact (ACZ hc).imp id fun h => h.1
end Go.Lf.G

