/-
 Contract: how it is now is told (chapter 9): a note is written, older ones go.
-/
import Derived.Test.YtdmlhpjdmgaggaaGreatDoorLfU22ToZ6
import Derived.Test.YtdmlhpjdmgaggaaGreatDoorLfM12ToX5
set_option linter.unusedVariables false
set_option linter.unusedSimpArgs false
set_option maxRecDepth 100000
set_option linter.unusedVariables false
set_option linter.unusedSimpArgs false
namespace Go.Lf.G
open Go
section
variable {A : Amb} {g h : Heap} {q : Hp} {k : Nat → Nat} {st : Db} {m : Bx} {R : Value → Heap → Prop}
theorem DbH.evnB (W : DbH g h q k st m) (E : Evn g) {h' : Heap} (x : Mod (fun c => q.Sb c ∨ c = q.lg ∨ c = q.nt) h h') : Evn h' :=
 E.ext (W.rest (C := fun c => c = 2 ∨ c = 3 ∨ c = 4) (x.weak fun c _ hc => by
  rcases hc with hc | rfl | rfl
  ·exact .inl (W.kb c hc)
  ·exact .inr (.inl W.kl)
  ·exact .inr (.inr W.kn)) (by decide)).ext
def ntS (st : Db) : Nt := ⟨st.next, st.frm, st.ts.map (·.1)⟩
theorem AFu {D : BK} {T : Nat → List Pr} (E : Evn g) (W : DbH g h q k st m) (hd : m.down = false) (hD : Ap (ff m) D) (hx : Wn (ntS st)) (hT : ∀ n ∈ (ntS st).names, ff m (tfN n) = some (Aa (Gs (T n)), bs0) ∧ Eu (T n)) (hs : 1 ≤ st.nseg ∧ st.nseg + 2 ≤ 99999999)
  (hout : ∀ n, st.nseg ≤ n → n ≤ 99999999 → ff m (fnB nn n) = none) (hw : wtF m.files + 1000000 ≤ 8000000000000)
  (H0 : m.fuel ≠ -1 → ∀ h' S' m', BV h' q.b S' m' → m'.down = true → Mod (fun c => q.Sb c ∨ c = q.nt) h h' → (∀ c, S' c → q.Sb c ∨ h.size ≤ c) → (∀ G, Gr (ff m') G → ∃ D', Ap G D' ∧ Nxt D st.nseg (ntS st) T D') → (∀ y, (∀ n, y ≠ fnB nn n) → ff m' y = ff m y) → wtF m'.files ≤ wtF m.files + 700000 → R (.int .i64 30) h')
  (H1 : ∀ h' S' k' m' D', DbH g h' { q with Sb := S' } k' { st with nseg := st.nseg + 1 } m' → GQ m m' → Ap (ff m') D' → Ac D' = ntS st → D'.T = T → D'.L = D.L → D'.ltop = D.ltop → D'.ntop ≤ max D.ntop (st.nseg + 1) → (∀ y, (∀ n, y ≠ fnB nn n) → ff m' y = ff m y) →
   (∀ n, st.nseg + 1 ≤ n → n ≤ 99999999 → ff m' (fnB nn n) = none) → wtF m'.files ≤ wtF m.files + 700000 → Mod (fun c => q.Sb c ∨ c = q.nt) h h' → Grow k k' h.size → R (.int .i64 0) h') : AA A P Fb #[BC q.d] h R := by
 have hbel : ∀ p ∈ st.ts, p.1 ≤ 99999999 := fun p hp => by
  have h1 := hx.below p.1 (List.mem_map.2 ⟨p, hp, rfl⟩)
  have h2 := hx.next
  simp only [ntS] at h1 h2; omega
 have hcnt : st.ts.length ≤ 60000 := by have := hx.cnt; simpa [ntS] using this
 have hnl := ACc hx
 have hnl2 : (ntS st).names.length = st.ts.length := by simp [ntS]
 rw [hnl2] at hnl
 have hnl3 : (Ck (ntS st)).length ≤ 1048576 := by omega
 refine Wo ?_
 unfold Ll
 refine atI (AU.mk (AB W.cell rfl) ?_)
 refine AJw W hx.next hx.frm.2 hcnt hbel fun h1 x1 => ⟨_, rfl, ⟨AB (W.on x1).cell rfl, ?_⟩⟩
 have W1 := W.on x1
 have sz1 := x1.size
 have er : (Aa (Ck ⟨st.next, st.frm, st.ts.map (·.1)⟩)).size = (Ck (ntS st)).length := by rw [AV]; rfl
 refine Qz (W1.evn E) W1.nts W1.box W1.nSn (fun h' x => W1.evnB E (x.weak fun c _ hc => .inl hc)) (by decide) (by omega) (by rw [er]; omega) (by omega) fun h2 S2 B2 L2 m2 s2 => ⟨_, rfl, ?_⟩
 rw [show bl (Aa (Ck ⟨st.next, st.frm, st.ts.map (·.1)⟩)) = Ck (ntS st) from HV _] at B2 L2 ⊢
 have wt2 := P7 W.box.good (fnB nn st.nseg) (Aa (Bt (Ck (ntS st))))
 have wl := (Fa hnl3).2
 rw [AV] at wt2
 have mod2 : Mod (fun c => q.Sb c ∨ c = q.nt) h h2 := (Ext.mod x1).trans m2
 have sub2 : ∀ c, S2 c → q.Sb c ∨ h.size ≤ c := fun c hc => (s2 c hc).imp id fun h => by omega
 rcases NY (k := fnB nn st.nseg) (d := Aa (Bt (Ck (ntS st)))) hd (AAf (by decide) (by omega)) with ⟨hf0, e2⟩ | ⟨e2, st2, f2⟩
 ·rw [e2] at B2 ⊢
  refine PIf.yes rfl ?_
  exact H0 (by rw [hf0]; decide) h2 S2 _ B2 rfl mod2 sub2 (fun G c => ⟨D, hD.crash c, AIb⟩) (fun y _ => rfl) (by rw [ADx]; omega)
 rw [e2] at L2 ⊢
 refine PIf.no rfl ?_
 rw [decide_eq_true rfl, Bool.or_true] at L2
 generalize (CX m (fnB nn st.nseg) (Aa (Bt (Ck (ntS st))))).2 = ma at *
 rw [hout st.nseg (Nat.le_refl _) (by omega)] at f2
 have f2' : ∀ y, ff ma y = if y = fnB nn st.nseg then some (bs0, Aa (Bt (Ck (ntS st)))) else ff m y := fun y => by
  rw [f2]; split <;> simp only [Option.getD_none, Nb]
 have nS2 : ¬ S2 q.nt := fun hc => by
  rcases s2 _ hc with h | h
  ·exact W.nSn h
  ·exact h.2 rfl
 have cd2 : h2[q.d]? = some (.cells (dbC q st false) De (0, 0)) := mod2.blk W.cell (by rintro (h | h); exact W.nSd h; exact W.dn h)
 refine atI (AU.mk (AB cd2 rfl) ?_)
 have fk : ff ma (fnB nn st.nseg) = some (bs0, Aa (Bt (Ck (ntS st)))) := by rw [f2', if_pos rfl]
 have ev2 : Evn h2 := W.evnB E (mod2.weak fun c _ hc => hc.imp id .inr)
 refine RN ev2 L2 B2 nS2 (by decide) (by omega) (fun hne h3 B3 L3 m3 => ⟨_, _, rfl, ?_⟩) fun heq h3 B3 L3 m3 => ⟨_, _, rfl, ?_⟩
 ·
  have hne' : (EO ma (fnB nn st.nseg)).1 ≠ 0 := hne
  rcases Ko st2.up fk with ⟨hf0, e3⟩ | ⟨e3, _, _⟩
  ·have e3' : Ik ma (fnB nn st.nseg) true = (30, Ii ma) := e3
   rw [e3'] at B3 ⊢
   refine PIf.yes rfl ?_
   have mod3 : Mod (fun c => q.Sb c ∨ c = q.nt) h h3 := mod2.then (m3.weak fun c _ hc => (sub2 c hc).imp .inl id)
   exact H0 (fun hh => by have := st2.calm hh; rw [hf0] at this; cases this) h3 S2 _ B3 rfl mod3 sub2 (fun G c => AG3 hD ⟨hs.1, by omega⟩ hx hnl3 hout hT (F1 := ff (Ii ma)) f2' c) (fun y hy => by
    rw [ABX, f2', if_neg (hy _)]) (by rw [ADx]; omega)
  ·exact absurd e3 hne'
 ·rcases Ko st2.up fk with ⟨hf0, e3⟩ | ⟨e3, st3, f3⟩
  ·have heq' : (EO ma (fnB nn st.nseg)).1 = 0 := heq
   rw [e3] at heq'; cases heq'
  have B3 : BV h3 q.b S2 (EO ma (fnB nn st.nseg)).2 := B3
  have wt3 := Sk B2.good (fnB nn st.nseg)
  generalize (EO ma (fnB nn st.nseg)).2 = mb at *
  refine PIf.no rfl ?_
  have f3' : ∀ y, ff mb y = if y = fnB nn st.nseg then some (Aa (Bt (Ck (ntS st))), bs0) else ff m y := fun y => by
   rw [f3]
   by_cases hy : y = fnB nn st.nseg
   ·rw [if_pos hy, if_pos hy]; simp only [Nb]
   ·rw [if_neg hy, if_neg hy, f2', if_neg hy]
  obtain ⟨hD3, hN⟩ := AGM hD ⟨hs.1, by omega⟩ hx hnl3 hout hT f3'
  have mod3 : Mod (fun c => q.Sb c ∨ c = q.nt) h h3 := mod2.then (m3.weak fun c _ hc => by
   rcases hc with hc | rfl
   ·exact (sub2 c hc).imp .inl id
   ·exact .inl (.inr rfl))
  have cd3 : h3[q.d]? = some (.cells (dbC q st false) De (0, 0)) := mod3.blk W.cell (by rintro (h | h); exact W.nSd h; exact W.dn h)
  refine atI (AU.mk (AB cd3 rfl) ?_)
  have ew : IntKind.wrap .i64 (((st.nseg : Nat) : Int) - (1 : Int)) = (st.nseg : Int) - 1 := wrap_i64 (by omega) (by omega)
  rw [ew]
  have ev3 : Evn h3 := W.evnB E (mod3.weak fun c _ hc => hc.imp id .inr)
  have ev4 : ∀ h', Mod S2 h3 h' → Evn h' := fun h' x => W.evnB E ((mod3.then (x.weak fun c _ hc => (sub2 c hc).imp .inl id)).weak fun c _ hc => hc.imp id .inr)
  have fz : ff mb (fnB nn st.nseg) ≠ none := by rw [f3', if_pos rfl]; simp
  refine Zq ev3 ev4 L3 B3 st3.up nS2 (by decide) (by omega) (fun h => absurd h (by omega)) (fun hfu h4 S4 m4 B4 dn4 md4 s4 w4 f4 => ⟨_, rfl, ?_⟩) fun _ h4 S4 m4 B4 st4 md4 s4 w4 f4 f4' => ⟨_, rfl, ?_⟩
  ·have mod4 : Mod (fun c => q.Sb c ∨ c = q.nt) h h4 := mod3.then (md4.weak fun c _ hc => (sub2 c hc).imp .inl id)
   obtain ⟨D', d1, d2, d3, d4, d5, d6⟩ := ACB (G := ff m4) hD3 hN fz fun y => by
    rcases f4 y with h1 | ⟨h1, n, n1, n9, nu, h2⟩
    ·exact .inl h1
    ·exact .inr ⟨h1, n, by omega, n9, h2⟩
   refine H0 (fun hh => hfu (st3.calm (st2.calm hh))) h4 S4 m4 B4 dn4 mod4 (fun c hc => sub2 c (s4 c hc)) (fun G c => ⟨D', d1.crash c, d4, d5, by omega, .inr ⟨d2, d3⟩⟩) (fun y hy => ?_) (by omega)
   rcases f4 y with h1 | ⟨_, n, _, _, _, h2⟩
   ·rw [h1, f3', if_neg (hy _)]
   ·exact absurd h2 (hy n)
  ·have mod4 : Mod (fun c => q.Sb c ∨ c = q.nt) h h4 := mod3.then (md4.weak fun c _ hc => (sub2 c hc).imp .inl id)
   obtain ⟨D', d1, d2, d3, d4, d5, d6⟩ := ACB (G := ff m4) hD3 hN fz fun y => by
    by_cases hy : ∃ n : Nat, 1 ≤ n ∧ n ≤ 99999999 ∧ (n : Int) ≤ (st.nseg : Int) - 1 ∧ y = fnB nn n
    ·obtain ⟨n, n1, n9, nu, rfl⟩ := hy
     exact .inr ⟨f4 n n1 n9 nu, n, by omega, n9, rfl⟩
    ·exact .inl (f4' y fun n n1 n9 nu e => hy ⟨n, n1, n9, nu, e⟩)
   have hfr : ∀ y, (∀ n, y ≠ fnB nn n) → ff m4 y = ff m y := fun y hy => by
    rw [f4' y fun n _ _ _ => hy n, f3', if_neg (hy _)]
   have L4 : Cv h4 q.nt q.b nn (st.nseg + 1) false := L3.mod md4 nS2
   have W4 := W.boxed (j := 4) (st' := { st with nseg := st.nseg + 1 }) B4 (mod4.weak fun c _ hc => hc.imp id fun h => .inr ⟨rfl, h⟩) (fun c hc => sub2 c (s4 c hc)) rfl rfl rfl rfl (.inl ⟨by decide, rfl, rfl⟩) (.inr L4)
   refine H1 h4 S4 _ m4 D' W4 ((st2.trans st3).trans st4) d1 d2 d3 d4 d5 (by omega) hfr (fun n n1 n9 => ?_) (by omega) mod4 YT
   rw [f4' (fnB nn n) fun k _ _ ku e => by have := F5 e; omega, f3', if_neg fun e => by have := F5 e; omega]
   exact hout n (by omega) n9
end
end Go.Lf.G

/-
 Contracts: slices.Values, merge.Some, pairs compared by the document (from the statements of chapters 5 and 8).
-/
set_option maxRecDepth 100000
set_option linter.unusedVariables false
set_option linter.unusedSimpArgs false
namespace Go.Lf.G.M
open Go Go.Lf Go.Lf.G
theorem Vs {A : Amb} {h : Heap} {a b : Sl} {la lb : List Pr} {R : Value → Heap → Prop} (va : View Af h a la) (vb : View Af h b lb) (hl : la.length ≤ 1099511627776)
  (H : R (.bool (decide (la = lb))) h) : AA A P CR #[.slice a.p a.len a.cap, .slice b.p b.len b.cap] h R := by
 refine QU ?_
 unfold Ha
 rw [va.len, vb.len]
 refine PIf.intro (fun hc => ?_) (fun hc => ?_)
 ·have : la ≠ lb := by rintro rfl; simp at hc
  simpa [this] using H
 ·have hlen : la.length = lb.length := by simp at hc; omega
  refine Loop.rule (fun m x h1 => ∃ i : Nat, x = ((i : Int), ()) ∧ h1 = h ∧ m = la.length - i ∧ i ≤ la.length ∧ la.take i = lb.take i) ?_ ⟨0, rfl, rfl, rfl, by omega, by simp⟩
  rintro K m _ _ ⟨i, rfl, rfl, rfl, hi, he⟩ hK
  refine PIf.intro (fun hc => ?_) (fun hc => ?_)
  ·have hi' : i < la.length := by simpa using hc
   rw [← va.len]
   refine va.idx (List.getElem?_eq_getElem hi') fun a1 _ c1 => ?_
   refine AC.mk (c1.pair.1) (AC.mk c1.pair.2.1 (AY.mk c1.pair.2.2 ?_))
   rw [← vb.len]
   refine vb.idx (List.getElem?_eq_getElem (by omega)) fun a2 _ c2 => ?_
   refine AC.mk (c2.pair.1) (AC.mk c2.pair.2.1 (AY.mk c2.pair.2.2 ?_))
   refine AJ7 ⟨_, rfl, ?_⟩
   refine PIf.intro (fun hq => ?_) (fun hq => ?_)
   ·have : la ≠ lb := by rintro rfl; simp at hq
    simpa [this] using H
   ·simp at hq
    refine hK _ _ _ ?_ ⟨i + 1, by rw [AR (by omega)], rfl, rfl, by omega, ?_⟩
    ·omega
    ·rw [List.take_add_one, List.take_add_one, he, List.getElem?_eq_getElem hi', List.getElem?_eq_getElem (by omega), hq]
  ·have hi' : i = la.length := by simp at hc; omega
   subst hi'
   rw [List.take_length, hlen, List.take_length] at he
   simpa [he] using H
theorem AIi {A : Amb} {h : Heap} {x : Pr} {R : Value → Heap → Prop} (H : ∀ h', Ext h h' → h.size ≤ h'.size → R (.int .i64 (Au x)) h') :
  AA A P El #[.agg #[.string x.key, .string x.val, .bool x.gone]] h R := by
 refine Oq ?_
 unfold G5
 refine New.mk fun h1 _ hb hx hsz => ?_
 have H1 := H h1 hx (by omega)
 unfold Au at H1
 refine Join.mk fun K hK => ?_
 have hbad : (decide (x.key = ⟨#[]⟩) || (x.gone && !decide (x.val = ⟨#[]⟩))) = true → K (true, ()) h1 := fun hc => hK _ _ (PIf.yes rfl (by rw [if_pos hc] at H1; exact H1))
 have hgood : (decide (x.key = ⟨#[]⟩) || (x.gone && !decide (x.val = ⟨#[]⟩))) = false → K (false, ()) h1 := fun hc => hK _ _ (PIf.no rfl (by
  rw [if_neg (by simp [hc])] at H1
  refine Join.mk fun K1 hK1 => ?_
  refine AC.mk (AJ hb rfl) ?_
  refine PIf.intro (fun hq => ?_) (fun hq => ?_)
  ·refine hK1 _ _ (PIf.yes rfl ?_)
   rw [if_pos (by simp at hq; simp; omega)] at H1
   exact H1
  ·refine AC.mk (AB hb rfl) (hK1 _ _ ?_)
   simp at hq
   refine PIf.intro (fun hq2 => ?_) (fun hq2 => ?_)
   ·rw [if_pos (by simp at hq2; simp; omega)] at H1
    exact H1
   ·rw [if_neg (by simp at hq2; simp; omega)] at H1
    exact H1))
 refine AC.mk (AJ hb rfl) ?_
 rw [BR]
 refine PIf.intro (fun hq => ?_) (fun hq => ?_)
 ·exact hbad (by simp at hq; simp [hq])
 ·refine AY.mk (AB hb rfl) ?_
  simp at hq
  refine PIf.intro (fun hg => ?_) (fun hg => ?_)
  ·refine AC.mk (AB hb rfl) ?_
   rw [BR]
   cases hv : (!decide (x.val = ⟨#[]⟩))
   ·exact hgood (by simp [hq, hg, hv])
   ·exact hbad (by simp [hq, hg, hv])
  ·exact hgood (by simp [hq, hg])
theorem AD0 {A : Amb} {h0 : Heap} {b : Nat} {T : TypeId} {fr : Nat × Nat} {s : Sl} {l : List Pr} (hb : h0[b]? = some (.cells #[.slice s.p s.len s.cap] T fr)) (v : View Af h0 s l) (hl : l.length ≤ 1099511627776) :
  Cw A P (.func (.func BZ) #[] #[.pointer (some ⟨b, 0, none⟩)]) (fun c => c < h0.size ∧ (c = b ∨ s.blk = some c)) h0 l := by
 refine ⟨fun c hc => hc.1, _, _, rfl, fun yv => by kernel_rfl, fun h hS yv J O hy hd hB hY hJ => ?_⟩
 rw [AKn]
 refine FQ ?_
 unfold CJ
 have hbl := Am hb
 have hbS : ∀ hh, Mod O h hh → hh[b]? = some (.cells #[.slice s.p s.len s.cap] T fr) := fun hh m => by
  have e := hS b ⟨hbl, .inl rfl⟩
  exact m.blk (e.trans hb) (hd b ⟨hbl, .inl rfl⟩)
 have hvS : ∀ i x, l[i]? = some x → ∃ a, s.p = some a ∧ ∀ hh, Mod O h hh → Cells hh (a.add (i * 3)) (Af.enc x) := fun i x hi => by
  obtain ⟨a, ha, hc⟩ := v.cells i x hi
  refine ⟨a, ha, fun hh m j u hj => ?_⟩
  have h1 := hc j u hj
  have hlt := Sv h1
  rw [add_block, add_block] at hlt
  have hSa : a.block < h0.size ∧ (a.block = b ∨ s.blk = some a.block) := ⟨hlt, .inr (by simp [Sl.blk, ha])⟩
  have e := hS _ hSa
  refine m.hget ((KM ?_).trans h1) ?_
  ·rw [add_block, add_block]; exact e
  ·rw [add_block, add_block]; exact hd _ hSa
 refine AQ.mk (AJ (hbS h Mod.refl) rfl) ?_
 refine Loop.rule (fun m x hh => ∃ (i : Nat) (O1 : Nat → Prop), x = ((i : Int), ()) ∧ m = l.length - i ∧ i ≤ l.length ∧ Mod O h hh ∧ (∀ b, O1 b → O b ∨ h.size ≤ b) ∧ J i true O1 hh) ?_ ⟨0, O, rfl, rfl, by omega, Mod.refl, fun b hb => .inl hb, hJ⟩
 rintro K m _ hh ⟨i, O1, rfl, rfl, hi, md, hsub, hj⟩ hK
 refine PIf.intro (fun hq => ?_) (fun hq => ?_)
 ·have hi' : i < l.length := by simp [v.len] at hq; omega
  obtain ⟨a, ha, hc⟩ := hvS i _ (List.getElem?_eq_getElem hi')
  have c1 := hc hh md
  refine Idx.mk ha (by rw [v.len]; exact hi') ?_
  refine AC.mk (c1.pair.1) (AC.mk c1.pair.2.1 (AY.mk c1.pair.2.2 ?_))
  refine New.pair fun b1 h5 eb hb1 x5 hs5 => ?_
  refine AC.mk (AJ hb1 rfl) (AC.mk (AB hb1 rfl) (AY.mk (AB hb1 rfl) ?_))
  have hj5 := hB.stable _ _ _ _ _ hj (x5.weak (S' := fun b => ¬ O1 b ∧ h.size ≤ b) fun _ _ h => h.elim)
  refine Eh.mono (hY i _ O1 h5 (List.getElem?_eq_getElem hi') hj5) ?_
  rintro _ h6 ⟨g, O2, rfl, hsub2, m6, hj6⟩
  have hsub3 : ∀ b, O2 b → O b ∨ h.size ≤ b := fun b hb => (hsub2 b hb).elim (hsub b) fun hle => .inr (by have := md.size; have := x5.size; omega)
  have md6 : Mod O h h6 := (md.trans x5.mod).then (m6.weak fun b _ hb => (hsub b hb))
  refine ⟨g, rfl, ?_⟩
  refine PIf.intro (fun hq => ?_) (fun hq => ?_)
  ·refine ⟨rfl, i + 1, g, O2, md6, hsub3, hj6, fun hg => ?_, by omega⟩
   subst hg; cases hq
  ·have hg : g = true := by simpa using hq
   subst hg
   exact hK _ _ _ (by omega) ⟨i + 1, O2, by rw [AR (by omega)], rfl, by omega, md6, hsub3, hj6⟩
 ·have hi' : i = l.length := by simp [v.len] at hq; omega
  exact ⟨rfl, i, true, O1, md, hsub, hj, fun _ => hi', by omega⟩
theorem AAB {A : Amb} {h : Heap} {s : Sl} {l : List Pr} {R : Value → Heap → Prop} (v : View Af h s l) (hl : l.length ≤ 1099511627776)
  (H : ∀ fv h', Cw A P fv (fun c => c < h'.size ∧ (c = h.size ∨ s.blk = some c)) h' l → Ext h h' → h'.size = h.size + 1 → R fv h') : AA A P BG #[.slice s.p s.len s.cap] h R := by
 refine GG ?_
 unfold CS
 refine New.mk fun h1 _ hb1 hx hsz => ?_
 exact H _ h1 (AD0 hb1 (v.ext hx) hl) hx hsz
theorem AAm {A : Amb} {h : Heap} {fv : Value} {S : Nat → Prop} {l : List Pr} {vto : ByteArray} {most : Int} {R : Value → Heap → Prop} (it : (fv = .nilFunc ∧ l = []) ∨ Cw A P fv S h l) (hl : l.length ≤ 1099511627776)
  (H : ∀ s' h', Own Af AO h' s' (K9 vto most l) → (∀ c, s'.blk = some c → h.size ≤ c) → Ext h h' → R (.slice s'.p s'.len s'.cap) h') : AA A P Gq #[fv, .string vto, .int .i64 most] h R := by
 refine ZL ?_
 unfold Nu
 refine New.mk fun h1 _ hb1 hx1 hsz1 => New.mk fun h2 _ hb2 hx2 hsz2 => New.mk fun h3 _ hb3 hx3 hsz3 => ?_
 have hx : Ext h h3 := (hx1.trans hx2).trans hx3
 have hbv : h3[h.size]? = some (.cells #[.string vto] Ad (0, 0)) := hx3.blk (hx2.blk hb1 (by simp)) (by simp)
 have hbm : h3[h1.size]? = some (.cells #[.int .i64 most] BO (0, 0)) := hx3.blk hb2 (by simp)
 refine Join.mk fun K hK => ?_
 have hnil : K9 vto most l = [] → K (true, ()) h3 := fun e => hK _ _ (PIf.yes rfl (H ⟨none, 0, 0⟩ h3 (e ▸ Own.nil) (fun c hc => by simp [Sl.blk] at hc) hx))
 rcases it with ⟨rfl, rfl⟩ | it
 ·exact ⟨trivial, PIf.yes rfl (hnil (by simp [K9]))⟩
 refine ⟨it.one.2.1, PIf.no it.one.2.2 ?_⟩
 refine AZ.mk (AJ hbm rfl) ?_
 cases hmost : decide (most ≤ 0)
 ·refine hK _ _ (PIf.no rfl ?_)
  have hmost : 0 < most := by simpa using hmost
  have hmd : ∀ h' : Heap, Mod (fun c => c = h2.size) h3 h' → Ext h h' := fun h' m => hx.then (m.weak fun c _ hc => .inr (by omega))
  have htl := (List.takeWhile_sublist (l := l) (Lb vto)).length_le
  refine RL it (fun b hb => hx.get b (it.1 b hb) (by simp))
   (fun i c O hh => hh[h.size]? = some (.cells #[.string vto] Ad (0, 0)) ∧ hh[h1.size]? = some (.cells #[.int .i64 most] BO (0, 0)) ∧ ∃ (s : Sl) (acc : List Pr), hh[h2.size]? = some (.cells #[.slice s.p s.len s.cap] AP (0, 0)) ∧ Own Af AO hh s acc ∧ (∀ b, O b ↔ (b = h2.size ∨ s.blk = some b)) ∧ (∀ b, s.blk = some b → b < hh.size ∧ h2.size < b) ∧ match c with
    | none => acc = l.take i ∧ i ≤ (l.takeWhile (Lb vto)).length ∧ (i : Int) < most
    | some j => j = some 0 ∧ acc = K9 vto most l)
   (fun b => b = h2.size) (fun b hb e => by have := it.1 b hb; omega) ?_ ?_ ?_ ?_ ?_ ?_
  ·rintro i c O hh ⟨_, _, s, acc, h2, o, hO, hlt, _⟩ b hb
   rcases (hO b).1 hb with rfl | h3
   ·exact Am h2
   ·exact (hlt b h3).1
  ·rintro i c O hh h' ⟨e1, e2, s, acc, hk2, o, hO, hlt, hm⟩ m
   refine ⟨m.blk e1 (fun h => by omega), m.blk e2 (fun h => by omega), s, acc, m.blk hk2 (fun hn => hn.1 ((hO _).2 (.inl rfl))), o.mod m (fun c hc hn => hn.1 ((hO _).2 (.inr hc))), hO, fun b hb => ⟨?_, (hlt b hb).2⟩, hm⟩
   have := m.size; have := (hlt b hb).1; omega
  ·exact ⟨hbv, hbm, ⟨none, 0, 0⟩, [], hb3, Own.nil, fun b => by simp [Sl.blk], fun b hb => by simp [Sl.blk] at hb, by simp, by omega, by simpa using hmost⟩
  ·rintro i x O1 hh rec kn' kj' hi ⟨e1, e2, s, acc, hk2, o, hO, hlt, rfl, htw, him⟩ nO hsz1 hrec hst hkn hkj
   have hil := (List.getElem?_eq_some_iff.1 hi).1
   have hst2 := Kb (p := Lb vto) (l := l) htw
   refine New.pair fun b1 h7 eb hb7 x7 hs7 => ?_
   refine ⟨rec, x7.blk hrec (by simp), hst, ?_⟩
   generalize hg : h7.setIfInBounds (h3.size + 1) (.loop { rec with state := .busy }) = h8
   have m8 : Mod (fun b => b = h3.size + 1) h7 h8 := hg ▸ Mod.setObj rfl
   have hl8 : h8[h3.size + 1]? = some (.loop { rec with state := .busy }) := by rw [← hg]; exact Di (by omega)
   have hb8 := m8.blk hb7 (by omega)
   have e18 := m8.blk (x7.blk e1 (by simp)) (by omega)
   have e28 := m8.blk (x7.blk e2 (by simp)) (by omega)
   have m08 : Mod (fun b => b = h3.size + 1) hh h8 := (Ext.mod x7).trans m8
   have hk28 := m8.blk (x7.blk hk2 (by simp)) (by omega)
   have hlt1 := Am hk2
   have o8 := (o.ext x7).mod m8 (fun c hc e => nO ((hO _).2 (.inr (e ▸ hc))))
   have hs8 := m8.size
   have hlen : (l.take i).length = i := by simp; omega
   refine Join.mk fun K1 hK1 => ?_
   have hstop : Lb vto x = false → K1 (true, ()) h8 := fun hp => hK1 _ _ (PIf.yes rfl (hkj _ _ (by
    refine ⟨O1, fun b hb => .inl hb, m08.weak fun b _ hb => .inr hb, hl8, e18, e28, s, l.take i, hk28, o8, hO, fun b hb => ⟨?_, (hlt b hb).2⟩, rfl, ?_⟩
    ·have := (hlt b hb).1; omega
    ·have := hst2.2.1 _ hi hp
     have e1 : (l.takeWhile (Lb vto)).take i = l.takeWhile (Lb vto) := List.take_of_length_le (by omega)
     have e2 : (l.takeWhile (Lb vto)).take most.toNat = l.takeWhile (Lb vto) := List.take_of_length_le (by omega)
     unfold K9
     rw [e2, ← Vn htw, e1])))
   have hgo : Lb vto x = true → K1 (false, ()) h8 := fun hp => hK1 _ _ (PIf.no rfl (by
    have hlt2 := hst2.1 _ hi hp
    refine AQ.mk (AJ hk28 rfl) (AC.mk (AJ hb8 rfl) (AC.mk (AB hb8 rfl) (AY.mk (AB hb8 rfl) ?_)))
    refine New.append1 (E := Af) (x := x) rfl G7 o8 (by rw [hlen]; omega) (by rw [hlen]; simp [maxLen]; omega) fun s4 h9 o9 m9 bl9 _ => ?_
    have hbl : s.blk ≠ some h2.size := fun e => by have := hlt _ e; omega
    refine Store.mk (m9.blk hk28 hbl) (by simp) fun h10 hb10 m10 hs10 => ?_
    have hsz9 := m9.size
    have hb10' : h10[h2.size]? = some (.cells #[.slice s4.p s4.len s4.cap] AP (0, 0)) := by simpa using hb10
    have o10 := o9.mod m10 (fun c hc e => by
     rcases bl9 c hc with h3 | h3
     ·have := hlt _ h3; omega
     ·omega)
    have e110 := m10.blk (m9.blk e18 (fun e => by have := hlt _ e; omega)) (by omega)
    have e210 := m10.blk (m9.blk e28 (fun e => by have := hlt _ e; omega)) (by omega)
    have hacc : l.take i ++ [x] = l.take (i + 1) := by rw [List.take_add_one, hi]; rfl
    rw [hacc] at o10
    have r1 : ∀ b, (b = h2.size ∨ s4.blk = some b) → O1 b ∨ hh.size ≤ b := by
     rintro b (rfl | hb)
     ·exact .inl ((hO _).2 (.inl rfl))
     ·rcases bl9 b hb with h3 | h3
      ·exact .inl ((hO _).2 (.inr h3))
      ·exact .inr (by omega)
    have r2 : Mod (fun b => O1 b ∨ b = h3.size + 1) hh h10 :=
     ((m08.weak fun b _ hb => .inr hb).trans (m9.weak fun b _ hb => .inl ((hO _).2 (.inr hb)))).trans (m10.weak fun b _ hb => .inl ((hO _).2 (.inl hb)))
    have r3 := m10.blk (m9.blk hl8 (fun e => nO ((hO _).2 (.inr e)))) (by omega)
    have r4 : ∀ b, s4.blk = some b → b < h10.size ∧ h2.size < b := by
     intro b hb
     have hbs : b < h9.size := by
      rcases o9.row with ⟨rfl, _⟩ | ⟨g, cur, hp, hgg, _⟩
      ·simp [Sl.blk] at hb
      ·simp [Sl.blk, hp] at hb; subst hb; exact Am hgg
     refine ⟨by omega, ?_⟩
     rcases bl9 b hb with h3 | h3
     ·exact (hlt _ h3).2
     ·omega
    refine AQ.mk (AJ hb10' rfl) (AZ.mk (AJ e210 rfl) ?_)
    have hs4 : s4.len = i + 1 := by rw [o10.len]; simp; omega
    refine PIf.intro (fun hq => hkj _ _ ?_) (fun hq => hkn _ ?_)
    ·refine ⟨_, r1, r2, r3, e110, e210, s4, _, hb10', o10, fun _ => Iff.rfl, r4, rfl, ?_⟩
     have hq : ((i + 1 : Nat) : Int) = most := by rw [hs4] at hq; simpa using hq
     unfold K9
     rw [← hq, Int.toNat_natCast, Vn (by omega)]
    ·refine ⟨_, r1, r2, r3, e110, e210, s4, _, hb10', o10, fun _ => Iff.rfl, r4, rfl, by omega, ?_⟩
     have hq : ((i + 1 : Nat) : Int) ≠ most := by rw [hs4] at hq; simpa using hq
     omega))
   refine AC.mk (AJ e18 rfl) ?_
   rw [BR]
   refine PIf.intro (fun he => ?_) (fun he => ?_)
   ·refine AC.mk (AJ hb8 rfl) (AC.mk (AJ e18 rfl) ?_)
    show K1 (!sLt x.key vto, ()) h8
    cases hs : sLt x.key vto
    ·exact hstop (by simp at he; simp [Lb, he, hs])
    ·exact hgo (by simp [Lb, hs])
   ·exact hgo (by simp at he; simp [Lb, he])
  ·rintro O' h' ⟨_, _, s, acc, hk2, o, hO, hlt, rfl, htw, him⟩ md n1 hsub hdf
   have hsz' := md.size
   refine AQ.mk (AJ hk2 rfl) ⟨hdf, ?_⟩
   have : K9 vto most l = l.take l.length := by
    unfold K9
    rw [List.take_of_length_le (by omega), ← Vn htw, List.take_of_length_le (by omega)]
   rw [← this] at o
   refine H s _ (o.mod (Mod.setObj (S := fun c => c = h3.size) rfl) fun c hc e => n1 ((hO _).2 (.inr (e ▸ hc)))) (fun c hc => by have := hlt _ hc; omega) ?_
   exact (hmd h' md).then (Mod.setObj (.inr (by omega)))
  ·rintro i j O' h' ⟨_, _, s, acc, hk2, o, hO, hlt, rfl, rfl⟩ hi md n1 hsub hdf
   have hsz' := md.size
   refine AQ.mk (AJ hk2 rfl) ⟨hdf, ?_⟩
   refine H s _ (o.mod (Mod.setObj (S := fun c => c = h3.size) rfl) fun c hc e => n1 ((hO _).2 (.inr (e ▸ hc)))) (fun c hc => by have := hlt _ hc; omega) ?_
   exact (hmd h' md).then (Mod.setObj (.inr (by omega)))
 ·refine hnil ?_
  have : most.toNat = 0 := by simp at hmost; omega
  simp [K9, this]
end Go.Lf.G.M

/-
 Contracts: a store is read: Get, Scan, Shape (chapter 9).
-/
set_option maxRecDepth 100000
set_option linter.unusedVariables false
set_option linter.unusedSimpArgs false
namespace Go.Lf.G
open Go
open M (Sorted Ah Df BL Al BF CZ Au OkL Bo atK K9 Lb)
def ABC (f t k : ByteArray) : Bool := !sLt k f && (decide (t = ⟨#[]⟩) || sLt k t)
def L8 (f t : ByteArray) (l : List Pr) : List Pr := l.filter fun x => ABC f t x.key
def YL (m : List Pr) (f t : ByteArray) (most : Int) : List Pr := (L8 f t m).take most.toNat
theorem VF {p : Pr → Bool} {r : ByteArray → Bool} (hp : ∀ x, p x = r x.key) (k : ByteArray) : ∀ l : List Pr, Ah k (l.filter p) = if r k then Ah k l else none
 | [] => by split <;> rfl
 | x :: l => by
  have ih := VF hp k l
  rw [List.filter_cons, M.Av]
  by_cases h : x.key = k
  ·rw [if_pos h]
   cases hr : r k with
   | true => rw [if_pos (by rw [hp, h]; exact hr), M.Av, if_pos h]; rfl
   | false =>
    rw [if_neg (by rw [hp, h, hr]; decide), ih, hr]; rfl
  ·rw [if_neg h]
   split
   ·rw [M.Av, if_neg h]; exact ih
   ·exact ih
theorem drop_at (k : ByteArray) : ∀ {l : List Pr}, Sorted l → l.drop (atK k l) = l.filter fun x => !sLt x.key k
 | [], _ => by simp
 | x :: l, s => by
  have s' := List.pairwise_cons.1 s
  rw [Oe, List.filter_cons]
  by_cases h : sLt x.key k = true
  ·rw [if_pos h, if_neg (by simp [h]), List.drop_succ_cons]; exact drop_at k s'.2
  ·have hall : ∀ y ∈ l, (!sLt y.key k) = true := fun y hy => by
    have h1 := s'.1 y hy
    cases h2 : sLt y.key k with
    | false => rfl
    | true => exact absurd (M.CP h1 h2) h
   rw [if_neg h, if_pos (by simp [h]), List.drop_zero, List.filter_eq_self.2 hall]
theorem AEA (t : ByteArray) : ∀ {l : List Pr}, Sorted l → l.takeWhile (Lb t) = l.filter (Lb t)
 | [], _ => rfl
 | x :: l, s => by
  have s' := List.pairwise_cons.1 s
  rw [List.takeWhile_cons, List.filter_cons]
  by_cases h : Lb t x = true
  ·rw [if_pos h, if_pos h, AEA t s'.2]
  ·rw [if_neg h, if_neg h]
   refine (List.filter_eq_nil_iff.2 fun y hy hy2 => h ?_).symm
   have h1 := s'.1 y hy
   unfold M.Lb at hy2 ⊢
   rw [Bool.or_eq_true] at hy2 ⊢
   rcases hy2 with h2 | h2
   ·exact .inl h2
   ·exact .inr (M.CP h1 h2)
theorem ADa {f t : ByteArray} {l : List Pr} (s : Sorted l) (hl : l.length ≤ 1099511627776) : K9 t 1099511627776 (l.drop (atK f l)) = L8 f t l := by
 unfold M.K9
 have s2 : Sorted (l.drop (atK f l)) := s.sublist (List.drop_sublist _ _)
 rw [AEA t s2, drop_at f s, List.filter_filter, List.take_of_length_le]
 ·unfold L8
  exact List.filter_congr fun x _ => by unfold ABC M.Lb; rw [Bool.and_comm]
 ·have h1 := List.length_filter_le (fun a => Lb t a && !sLt a.key f) l
  have : (1099511627776 : Int).toNat = 1099511627776 := rfl
  omega
theorem Qt {f t : ByteArray} {l : List Pr} (s : Sorted l) : Sorted (L8 f t l) := s.sublist List.filter_sublist
theorem ACF (k f t : ByteArray) (l : List Pr) : Ah k (L8 f t l) = if ABC f t k then Ah k l else none := VF (fun _ => rfl) k l
theorem AAP (k f t : ByteArray) : ∀ ls : List (List Pr), BF k (ls.map (L8 f t)) = if ABC f t k then BF k ls else none
 | [] => by split <;> rfl
 | l :: ls => by
  rw [List.map_cons, M.Ct, M.Ct, AAP k f t ls, ACF]
  split <;> rfl
theorem AHY {f t : ByteArray} {ls : List (List Pr)} (o : OkL ls) : OkL (ls.map (L8 f t)) := ⟨fun l hl => by
  obtain ⟨x, hx, rfl⟩ := List.mem_map.1 hl
  exact Qt (o.sorted x hx), fun l hl => by
  obtain ⟨x, hx, rfl⟩ := List.mem_map.1 hl
  exact fun y hy => o.good x hx y (List.mem_filter.1 hy).1⟩
theorem AF3 {f t : ByteArray} {ls : List (List Pr)} (o : OkL ls) : Al (ls.map (L8 f t)) = L8 f t (Al ls) :=
 (M.Ci _).ext (Qt (M.Ci _)) fun k => by rw [M.Gv k (AHY o), AAP, ACF, M.Gv k o]
theorem AJs {f t : ByteArray} {ls : List (List Pr)} (o : OkL ls) (most : Int) : K9 t most (Bo (Al (ls.map (L8 f t)))) = YL (Bo (Al ls)) f t most := by
 rw [AF3 o]
 have e : Bo (L8 f t (Al ls)) = L8 f t (Bo (Al ls)) := by
  unfold M.Bo L8
  rw [List.filter_filter, List.filter_filter]
  exact List.filter_congr fun x _ => Bool.and_comm ..
 rw [e]
 unfold M.K9 YL
 have h : ∀ x ∈ L8 f t (Bo (Al ls)), Lb t x = true := fun x hx => by
  have := (List.mem_filter.1 hx).2
  unfold ABC at this
  rw [Bool.and_eq_true] at this
  exact this.2
 rw [AEA t (Qt (PT (M.Ci _))), List.filter_eq_self.2 h]
def OY (A : Amb) (h : Heap) (s : Sl) (ls : List (List Pr)) : Prop :=
 ∃ vs, Own AD4 BI h s vs ∧ vs.length = ls.length ∧ ∀ (i : Nat) (v : ZC) (l : List Pr), vs[i]? = some v → ls[i]? = some l → (∃ S, Cw A P v.v S h l ∧ ∀ c, S c → s.blk ≠ some c) ∧ l.length ≤ 1099511627776
theorem Cw.at {A : Amb} {fv : Value} {S T : Nat → Prop} {h h' : Heap} {l : List Pr} (it : Cw A P fv S h l) (x : Mod T h h') (hT : ∀ c, S c → ¬ T c) : Cw A P fv S h' l :=
 Cw.weak it (fun _ h => h) (fun c hc => by have := it.1 c hc; have := x.size; omega) fun c hc => x.get c (it.1 c hc) (hT c hc)
theorem OY.ext {A : Amb} {h h' : Heap} {s : Sl} {ls : List (List Pr)} (q : OY A h s ls) (x : Ext h h') : OY A h' s ls := by
 obtain ⟨vs, o, hl, hi⟩ := q
 refine ⟨vs, o.ext x, hl, fun i v l h1 h2 => ?_⟩
 obtain ⟨⟨S, it, hS⟩, hn⟩ := hi i v l h1 h2
 exact ⟨⟨S, Cw.at it x (fun _ _ h => h), hS⟩, hn⟩
theorem OY.nil {A : Amb} {h : Heap} : OY A h ⟨none, 0, 0⟩ [] := ⟨[], Own.nil, rfl, fun i v l h => by simp at h⟩
theorem OY.seqs {A : Amb} {h : Heap} {s : Sl} {ls : List (List Pr)} (q : OY A h s ls) : M.ALo A (fun _ => False) h s ls := by
 obtain ⟨vs, o, hl, hi⟩ := q
 refine ⟨vs, o.view, fun c hc => ⟨o.lt hc, fun h => h⟩, hl, fun i v l h1 h2 => .inr ?_⟩
 obtain ⟨⟨S, it, hS⟩, hn⟩ := hi i v l h1 h2
 exact ⟨it.weak (fun c hc => ⟨it.1 c hc, fun h => h⟩) (fun c hc => hc.1) (fun _ _ => rfl), hn⟩
theorem OY.one {A : Amb} {h h1 : Heap} {fv : Value} {l : List Pr} {S : Nat → Prop} {b : Nat} (it : Cw A P fv S h l) (hl : l.length ≤ 1099511627776) (hb : h1[b]? = some (.cells #[fv] BI (0, 0))) (x : Ext h h1) (hn : h.size ≤ b) : OY A h1 ⟨some ⟨b, 0, none⟩, 1, 1⟩ [l] := by
 refine ⟨[⟨fv, it.one.1⟩], Own.lit (l := [(⟨fv, it.one.1⟩ : ZC)]) hb rfl (by simp [maxLen]), rfl, fun i v l' h1 h2 => ?_⟩
 have hi : i = 0 := by
  have := (List.getElem?_eq_some_iff.1 h1).1
  simpa using this
 subst hi
 simp only [List.getElem?_cons_zero, Option.some.injEq] at h1 h2
 subst h1 h2
 exact ⟨⟨S, Cw.at it x (fun _ _ h => h), fun c hc e => by have := it.1 c hc; simp [Sl.blk] at e; omega⟩, hl⟩
theorem OY.add {A : Amb} {h : Heap} {s : Sl} {ls : List (List Pr)} {fv : Value} {l : List Pr} {S : Nat → Prop} {K : Sl → Heap → Prop} {ty : TypeId} (q : OY A h s ls) (it : Cw A P fv S h l) (hS : ∀ c, S c → s.blk ≠ some c) (hl : l.length ≤ 1099511627776) (hls : ls.length ≤ 1000000)
  (H : ∀ s' h', OY A h' s' (ls ++ [l]) → Mod (fun b => s.blk = some b) h h' → (∀ b, s'.blk = some b → s.blk = some b ∨ h.size ≤ b) → K s' h') :
  New h (.cells #[fv] BI) fun b h1 => Ba A P (Builtin.append_ #[Ak, Ak] ty #[.slice s.p s.len s.cap, .slice (some ⟨b, 0, none⟩) 1 1]) h1 fun v h' => ∃ s' : Sl, v = .slice s'.p s'.len s'.cap ∧ K s' h' := by
 obtain ⟨vs, o, hvl, hi⟩ := q
 refine New.append1 (E := AD4) (x := ⟨fv, it.one.1⟩) (s := s) (l := vs) rfl M.AJg o (by omega) (by simp [maxLen]; omega) fun s' h' o' m' b' _ => ?_
 have hfresh : ∀ {T : Nat → Prop} {w : Value} {l' : List Pr}, Cw A P w T h l' → (∀ c, T c → s.blk ≠ some c) → ∃ S, Cw A P w S h' l' ∧ ∀ c, S c → s'.blk ≠ some c := fun {T} w l' it hT => ⟨T, Cw.at it m' (fun c hc => hT c hc), fun c hc e => by
  rcases b' c e with h1 | h1
  ·exact hT c hc h1
  ·have := it.1 c hc; omega⟩
 refine H s' h' ⟨vs ++ [⟨fv, it.one.1⟩], o', by simp [hvl], fun i v l' h1 h2 => ?_⟩ m' b'
 by_cases hlt : i < vs.length
 ·rw [List.getElem?_append_left hlt] at h1
  rw [List.getElem?_append_left (by omega)] at h2
  obtain ⟨⟨T, it', hT⟩, hn⟩ := hi i v l' h1 h2
  exact ⟨hfresh it' hT, hn⟩
 ·have hi : i = vs.length := by
   have := (List.getElem?_eq_some_iff.1 h1).1
   simp at this; omega
  subst hi
  rw [List.getElem?_append_right (Nat.le_refl _)] at h1
  rw [List.getElem?_append_right (by omega)] at h2
  simp at h1
  rw [hvl] at h2
  simp at h2
  subst h1 h2
  exact ⟨hfresh it hS, hl⟩
section
variable {A : Amb} {g h : Heap} {q : Hp} {k : Nat → Nat} {st : Db} {m : Bx} {R : Value → Heap → Prop}
def tabsS (st : Db) : List (List Pr) := st.ts.map (·.2)
def BH (st : Db) : List Pr := Ip st.fr (tabsS st)
theorem DbH.tabok (W : DbH g h q k st m) : ∀ p ∈ st.ts, Eu p.2 := fun p hp => by
 obtain ⟨i, hi, rfl⟩ := List.getElem_of_mem hp
 have hip : i < q.ps.length := by rw [W.tlen]; exact hi
 obtain ⟨lo, hi', _, _, _, t⟩ := W.tab i q.ps[i] st.ts[i] (List.getElem?_eq_getElem hip) (List.getElem?_eq_getElem hi)
 exact t
theorem DbH.okL (W : DbH g h q k st m) : OkL (st.fr :: tabsS st) := by
 refine ⟨fun l hl => ?_, fun l hl => ?_⟩ <;> rcases List.mem_cons.1 hl with rfl | hl
 ·exact W.fresh.sorted
 ·obtain ⟨p, hp, rfl⟩ := List.mem_map.1 hl
  exact (W.tabok p hp).good.1
 ·exact W.fresh.good
 ·obtain ⟨p, hp, rfl⟩ := List.mem_map.1 hl
  exact (W.tabok p hp).good.2
theorem ABd (f t : ByteArray) (l : List Pr) : (L8 f t l).length ≤ l.length := List.length_filter_le ..
theorem AKU {f t : ByteArray} (W : DbH g h q k st m) (hf : st.fr.length ≤ 1000000) (hts : st.ts.length ≤ 100000)
  (H : ∀ fv h', Cw A P fv (fun c => c < h'.size) h' (Al ((st.fr :: tabsS st).map (L8 f t))) → Ext h h' → R fv h') : AA A P Jz #[BC q.d, .string f, .string t] h R := by
 refine ZB ?_
 unfold Ns
 refine atI (AU.mk (AB W.cell rfl) ?_)
 refine M.ACt W.fresh fun fv h1 it1 x1 s1 => ⟨_, rfl, ?_⟩
 refine M.AAm (.inr it1) (by rw [List.length_drop]; omega) fun sl h2 o2 b2 x2 => ⟨_, rfl, ?_⟩
 rw [ADa W.fresh.sorted (by omega)] at o2
 have l0 := ABd f t st.fr
 refine M.AAB o2.view (by omega) fun fv3 h3 it3 x3 s3 => ⟨_, rfl, Sa.mk it3.one.1 (New.mk fun h4 _ hb4 x4 s4 => ?_)⟩
 have q4 := OY.one it3 (by omega) hb4 x4 (Nat.le_refl _)
 have x04 := ((x1.trans x2).trans x3).trans x4
 have W4 := W.on x04
 refine atI (AQ.mk (s := q.tp) (AB W4.cell rfl) ?_)
 have hpl := W.tlen
 have htl := W.tabs.len
 refine Loop.rule (fun mm x hh => ∃ (i : Nat) (sl : Sl), x = (sl, (i : Int), ()) ∧ mm = q.ps.length - i ∧ i ≤ q.ps.length ∧ Ext h hh ∧ (∀ c, sl.blk = some c → h.size ≤ c) ∧ OY A hh sl ((st.fr :: (tabsS st).take i).map (L8 f t))) ?_ ⟨0, ⟨some ⟨h3.size, 0, none⟩, 1, 1⟩, rfl, rfl, by omega, x04, fun c hc => by
  simp [Sl.blk] at hc
  have := ((x1.trans x2).trans x3).size; omega, by simpa using q4⟩
 rintro K mm _ hh ⟨i, sl, rfl, rfl, hi, x0h, hbl, qq⟩ hK
 dsimp only
 refine PIf.intro (fun hq => ?_) (fun hq => ?_)
 ·have hil : i < q.ps.length := by rw [← htl]; simpa using hq
  have his : i < st.ts.length := by omega
  have g1 : q.ps[i]? = some q.ps[i] := List.getElem?_eq_getElem hil
  have g2 : st.ts[i]? = some st.ts[i] := List.getElem?_eq_getElem his
  have g3 : (tabsS st)[i]? = some st.ts[i].2 := by unfold tabsS; rw [List.getElem?_map, g2]; rfl
  have Wh := W.on x0h
  refine Wh.tabs.view.idx g1 fun a _ c => AU.mk (Cells.pt c) ?_
  obtain ⟨lo, hi', T1, t1, t2, t3⟩ := Wh.tab i _ _ g1 g2
  refine ADk T1 t1 t3.tabS fun fv5 h5 it5 x5 s5 => ⟨_, rfl, ?_⟩
  have hm := t3.many
  refine M.AAm (.inr it5) (by rw [List.length_drop]; omega) fun sl6 h6 o6 b6 x6 => ⟨_, rfl, ?_⟩
  rw [ADa t3.good.1 (by omega)] at o6
  have l1 := ABd f t st.ts[i].2
  refine M.AAB o6.view (by omega) fun fv7 h7 it7 x7 s7 => ⟨_, rfl, Sa.mk it7.one.1 ?_⟩
  have x57 := (x5.trans x6).trans x7
  refine OY.add (qq.ext x57) it7 (fun c hc e => ?_) (by omega) (by simp [tabsS]; omega) fun s' h' q' m' b' => ?_
  ·obtain ⟨vs, ov, _, _⟩ := qq
   have hlt := ov.lt e
   rcases hc.2 with h1 | h1
   ·have := (x5.trans x6).size; omega
   ·have := b6 c h1; have := x5.size; omega
  ·rw [AR (by omega)]
   refine hK (q.ps.length - (i + 1)) _ _ (by omega) ⟨i + 1, s', rfl, rfl, hil, ?_, fun c hc => ?_, ?_⟩
   ·exact (x0h.trans x57).then (m'.weak fun c _ hc => .inr (hbl c hc))
   ·rcases b' c hc with h1 | h1
    ·exact hbl c h1
    ·have := x0h.size; have := x57.size; omega
   ·rw [List.take_add_one, g3]
    simpa using q'
 ·have hil : i = q.ps.length := by
   have : ¬ i < q.tp.len := by simpa using hq
   omega
  subst hil
  rw [List.take_of_length_le (by simp [tabsS]; omega)] at qq
  refine M.AH7 qq.seqs (fun c h => h.elim) (by simp [tabsS]; omega) (AHY W.okL) fun fv h' it x _ => ⟨_, rfl, H fv h' (it.weak (fun c hc => hc.1) (fun c hc => hc) (fun _ _ => rfl)) (x0h.trans x)⟩
theorem SA (W : DbH g h q k st m) {K : Bool × Unit → Heap → Prop} (H : K (false, ()) h) : PIf ((some (⟨q.d, 0, none⟩ : Addr)).isNone) (K (true, ()) h) (At (some (⟨q.d, 0, none⟩ : Addr)) fun a => AY h (a.add 8) fun t => K (t, ()) h) :=
 PIf.no rfl (atI (AY.mk (AB W.cell rfl) H))
theorem AJI {f t : ByteArray} {most : Int} (W : DbH g h q k st m) (hf : st.fr.length ≤ 1000000) (hts : st.ts.length ≤ 100000) (hmap : (Al (st.fr :: tabsS st)).length ≤ 1099511627776)
  (H : ∀ s h', Own Af AO h' s (YL (BH st) f t most) → (∀ c, s.blk = some c → h.size ≤ c) → Ext h h' → R (.tuple #[.slice s.p s.len s.cap, .int .i64 0]) h') : AA A P JI #[BC q.d, .string f, .string t, .int .i64 most] h R := by
 refine Xd ?_
 unfold LY
 refine Join.mk fun K hK => SA W (hK _ _ (PIf.no rfl ?_))
 refine AKU W hf hts fun fv h1 it x1 => ⟨_, rfl, ?_⟩
 refine M.AF2 (.inr it) fun fv2 h2 it2 x2 s2 => ⟨_, rfl, ?_⟩
 have hl : (Bo (Al ((st.fr :: tabsS st).map (L8 f t)))).length ≤ 1099511627776 := by
  rw [AF3 W.okL]
  have h1 := TY (L8 f t (Al (st.fr :: tabsS st)))
  have h2 := ABd f t (Al (st.fr :: tabsS st))
  omega
 refine M.AAm (.inr it2) hl fun s3 h3 o3 b3 x3 => ⟨s3, rfl, ?_⟩
 rw [AJs W.okL] at o3
 exact H s3 h3 o3 (fun c hc => by have := b3 c hc; have := (x1.trans x2).size; omega) ((x1.trans x2).trans x3)
theorem Zm (key : ByteArray) : ∀ {l : List Pr}, Sorted l → M.Jr key l = QP key l
 | [], _ => rfl
 | x :: l, s => by
  have s' := List.pairwise_cons.1 s
  have ih := Zm key s'.2
  unfold M.Jr QP at ih ⊢
  rw [Oe, M.Av]
  by_cases h : sLt x.key key = true
  ·rw [if_pos h, if_neg (M.Js h), List.getElem?_cons_succ]; exact ih
  ·rw [if_neg h, List.getElem?_cons_zero]
   by_cases hk : x.key = key
   ·simp [hk]
   ·have hn : Ah key l = none := M.FM fun y hy e => h (by
     have := s'.1 y hy
     rwa [e] at this)
    simp [hk, hn]
def Fj (m : List Pr) (key : ByteArray) : ByteArray × Bool := match Ah key m with | some p => (p.val, true) | none => (⟨#[]⟩, false)
theorem AIw {key : ByteArray} (W : DbH g h q k st m) (hts : st.ts.length ≤ 100000) (hk : key.size ≤ 1099511627776)
  (H : ∀ h', Ext h h' → R (.tuple #[.string (Fj (BH st) key).1, .bool (Fj (BH st) key).2, .int .i64 0]) h') : AA A P IW #[BC q.d, .string key] h R := by
 refine Qc ?_
 unfold J9
 refine Join.mk fun K hK => SA W (hK _ _ (PIf.no rfl ?_))
 refine atI (AU.mk (AB W.cell rfl) ?_)
 have hg : ∀ p, (Ah key st.fr).or (BF key (tabsS st)) = some p → Fj (BH st) key = (p.val, !p.gone) := fun p hp => by
  have e : Ah key (BH st) = alive (some p) := by unfold BH; rw [Ed key W.okL, hp]
  unfold Fj
  rw [e, HZ]
  cases hgo : p.gone with
  | false => rfl
  | true =>
   have hw : Au p = 0 := by
    cases hf : Ah key st.fr with
    | some x =>
     rw [hf] at hp
     simp only [Option.some_or, Option.some.injEq] at hp
     subst hp
     exact W.fresh.good x (M.Mq hf).2
    | none =>
     rw [hf, Option.none_or] at hp
     unfold M.BF at hp
     obtain ⟨l, hl, hx⟩ := List.exists_of_findSome?_eq_some hp
     exact W.okL.good l (List.mem_cons_of_mem _ hl) p (M.Mq hx).2
   have hv := (AF8 hw).gone hgo
   show ((⟨#[]⟩ : ByteArray), false) = (p.val, !true)
   rw [UN hv]; rfl
 have hg0 : (Ah key st.fr).or (BF key (tabsS st)) = none → Fj (BH st) key = (⟨#[]⟩, false) := fun hp => by
  have e : Ah key (BH st) = alive none := by unfold BH; rw [Ed key W.okL, hp]
  unfold Fj
  rw [e]; rfl
 refine M.AJB W.fresh fun h1 x1 => ⟨_, _, _, _, rfl, ?_⟩
 rw [Zm key W.fresh.sorted]
 refine New.pair fun b h2 _ hb2 x2 s2 => ?_
 have x02 := x1.trans x2
 cases hf : Ah key st.fr with
 | some p =>
  have e : QP key st.fr = (p, true) := by unfold QP; rw [hf]
  rw [e] at hb2 ⊢
  refine PIf.yes rfl (AC.mk (AB hb2 rfl) (AY.mk (AB hb2 rfl) ?_))
  have := H h2 x02
  rw [hg p (by rw [hf]; rfl)] at this
  exact this
 | none =>
  have e : QP key st.fr = (M.Pb, false) := by unfold QP; rw [hf]
  rw [e] at hb2 ⊢
  refine PIf.no rfl ?_
  have W2 := W.on x02
  refine atI (AQ.mk (s := q.tp) (AB W2.cell rfl) ?_)
  have hpl := W.tlen
  have htl := W.tabs.len
  refine Loop.rule (fun mm x hh => ∃ i : Nat, x = ((i : Int), ()) ∧ mm = q.ps.length - i ∧ i ≤ q.ps.length ∧ Ext h hh ∧ BF key ((tabsS st).take i) = none) ?_ ⟨0, rfl, rfl, by omega, x02, rfl⟩
  rintro K2 mm _ hh ⟨i, rfl, rfl, hi, xx, hno⟩ hK2
  dsimp only
  refine PIf.intro (fun hq => ?_) (fun hq => ?_)
  ·have hil : i < q.ps.length := by rw [← htl]; simpa using hq
   have his : i < st.ts.length := by omega
   have g1 : q.ps[i]? = some q.ps[i] := List.getElem?_eq_getElem hil
   have g2 : st.ts[i]? = some st.ts[i] := List.getElem?_eq_getElem his
   have g3 : (tabsS st)[i]? = some st.ts[i].2 := by unfold tabsS; rw [List.getElem?_map, g2]; rfl
   have Wh := W.on xx
   refine Wh.tabs.view.idx g1 fun a _ c => AU.mk (Cells.pt c) ?_
   obtain ⟨lo, hi', T1, t1, t2, t3⟩ := Wh.tab i _ _ g1 g2
   refine AJ8 T1 t3.tabS hk fun h5 x5 => ⟨_, _, _, _, rfl, ?_⟩
   refine New.pair fun b6 h6 _ hb6 x6 s6 => ?_
   have x06 := (xx.trans x5).trans x6
   have htk : (tabsS st).take (i + 1) = (tabsS st).take i ++ [st.ts[i].2] := by rw [List.take_add_one, g3]; rfl
   have hall : BF key (tabsS st) = (Ah key st.ts[i].2).or (BF key ((tabsS st).drop (i + 1))) := by
    conv => lhs; rw [← List.take_append_drop (i + 1) (tabsS st), htk]
    rw [M.Lp, M.Lp, hno, M.Ct]
    have : BF key ([] : List (List Pr)) = none := rfl
    rw [this, Option.or_none, Option.none_or]
   cases hf2 : Ah key st.ts[i].2 with
   | some p =>
    have e : QP key st.ts[i].2 = (p, true) := by unfold QP; rw [hf2]
    rw [e] at hb6 ⊢
    refine PIf.yes rfl (AC.mk (AB hb6 rfl) (AY.mk (AB hb6 rfl) ?_))
    have := H h6 x06
    rw [hg p (by rw [hf, hall, hf2]; rfl)] at this
    exact this
   | none =>
    have e : QP key st.ts[i].2 = (M.Pb, false) := by unfold QP; rw [hf2]
    rw [e] at hb6 ⊢
    refine PIf.no rfl ?_
    rw [AR (by omega)]
    refine hK2 (q.ps.length - (i + 1)) _ _ (by omega) ⟨i + 1, rfl, rfl, hil, x06, ?_⟩
    rw [htk, M.Lp, hno, M.Ct, hf2]
    rfl
  ·have hil : i = q.ps.length := by
    have : ¬ i < q.tp.len := by simpa using hq
    omega
   subst hil
   rw [List.take_of_length_le (by simp [tabsS]; omega)] at hno
   have := H hh xx
   rw [hg0 (by rw [hf, hno]; rfl)] at this
   exact this
theorem Vx {d : Nat} (D : PD h d) {K : Bool × Unit → Heap → Prop} (H : K (true, ()) h) : PIf ((some (⟨d, 0, none⟩ : Addr)).isNone) (K (true, ()) h) (At (some (⟨d, 0, none⟩ : Addr)) fun a => AY h (a.add 8) fun t => K (t, ()) h) := by
 obtain ⟨c0, c1, c2, c3, c4, c5, c6, c7, hd⟩ := D
 exact PIf.no rfl (atI (AY.mk (AB hd rfl) H))
end
end Go.Lf.G

/-
 A store over its files (chapter 9): plain law: what is kept in step, how much there may be, what a crash leaves.
-/
set_option maxRecDepth 100000
set_option linter.unusedVariables false
set_option linter.unusedSimpArgs false
namespace Go.Lf.G
open Go
open M (Sorted Ah Df BL Al BF CZ Au OkL Bo)
def AHo (C : Nat) : Nat := 20000 * C + 10000000
structure Bud where
 C : Nat
 W0 : Nat
 A : Nat
 hC : C ≤ 100000
 hA : A ≤ 60000
 hW : W0 + A * AHo C ≤ 8000000000000
def Bud.K (B : Bud) : Nat := AHo B.C
theorem Bud.wt (B : Bud) {a : Nat} (h : a ≤ B.A) : B.W0 + a * B.K ≤ 8000000000000 := by
 have h1 := B.hW
 have h2 : a * B.K ≤ B.A * B.K := Nat.mul_le_mul_right _ h
 have h3 : B.A * AHo B.C = B.A * B.K := rfl
 rw [h3] at h1
 generalize a * B.K = x at *
 generalize B.A * B.K = y at *
 omega
theorem ZX : ∀ rs : List (List UInt8), (∀ r ∈ rs, r.length ≤ 1048576) → (wraps rs).length ≤ (rs.map List.length).sum + rs.length * 14
 | [], _ => by simp
 | r :: rs, h => by
  have h2 := (Fa (h r List.mem_cons_self)).2
  have h3 := ZX rs fun x hx => h x (List.mem_cons_of_mem _ hx)
  rw [RA]
  simp only [List.length_append, List.map_cons, List.sum_cons, List.length_cons]
  omega
theorem Zp : ∀ bs : List (List Pr), ((bs.map Ar).map List.length).sum = (Ar bs.flatten).length
 | [] => rfl
 | b :: bs => by
  simp only [List.map_cons, List.sum_cons, List.flatten_cons, Zp bs]
  simp [Ar]
theorem AGs {n w s k f p : Nat} (h2 : w ≤ s + k * 14) (h3 : s = p + f) (h5 : p ≤ n * 8276) (h6 : f ≤ 1048576) (h8 : k ≤ n + 2) : w ≤ 8400 * n + 1100000 := by omega
theorem AFL {l : List Pr} (t : Eu l) : (Gs l).length ≤ 8400 * l.length + 1100000 := by
 have h2 := ZX (framesT l (JS l)) (KA t.tabS)
 have h3 : ((framesT l (JS l)).map List.length).sum = (Ar l).length + (Qd l (JS l)).length := by
  have e := Zp (H5 l)
  rw [AGW] at e
  rw [← e]
  simp only [framesT, List.map_append, List.sum_append, List.map_cons, List.map_nil, List.sum_cons, List.sum_nil, Nat.add_zero]
 have h7 : (framesT l (JS l)).length ≤ l.length + 2 := by
  have h7 : (framesT l (JS l)).length = BM l + 1 := by simp [framesT, Es]
  have h8 : BM l ≤ l.length + 1 := by unfold BM; omega
  omega
 exact AGs h2 h3 (I6 t.ok) (R4 t.tabS) h7
def JZ (D : BK) : Nat := ((Ac D).names.map fun n => (D.T n).length).sum + (FX D).flatten.length
structure DX (F : Fls) (st : Db) (D : BK) : Prop where
 ok : Ap F D
 names : (Ac D).names = st.ts.map (·.1)
 tabs : ∀ p ∈ st.ts, D.T p.1 = p.2
 frm : (Ac D).frm = st.frm
 next : (Ac D).next ≤ st.next
 below : ∀ p ∈ st.ts, p.1 < st.next
 fr : st.fr = Cz D
 lout : ∀ n, st.lseg ≤ n → n ≤ 99999999 → (st.lmade = true → n ≠ st.lseg) → F (fnB nl n) = none
 lcur : st.lmade = true → F (fnB nl st.lseg) = some (Aa (wraps ((D.L st.lseg).map (Ay st.lseg))), bs0)
 nout : ∀ n, st.nseg ≤ n → n ≤ 99999999 → F (fnB nn n) = none
 lfrm : 1 ≤ st.frm ∧ st.frm ≤ st.lseg
 nseg : 1 ≤ st.nseg
 clean : ∀ n, F (tfN n) ≠ none → n ∈ st.ts.map (·.1)
structure Ob (st : Db) (D : BK) (age c : Nat) : Prop where
 lseg : st.lseg ≤ 8 * age + 4
 nseg : st.nseg ≤ 8 * age + 4
 next : st.next ≤ 8 * age + 4
 cnt : st.ts.length ≤ age
 prs : JZ D ≤ c
 ltop : D.ltop ≤ 8 * age + 6
 ntop : D.ntop ≤ 8 * age + 6
structure ACa (F : Fls) (D : BK) (age c : Nat) : Prop where
 ltop : D.ltop ≤ 8 * age + 8
 ntop : D.ntop ≤ 8 * age + 8
 next : (Ac D).next ≤ 8 * age + 8
 frm : (Ac D).frm ≤ 8 * age + 8
 cnt : (Ac D).names.length ≤ age
 prs : JZ D ≤ c
 tfs : ∀ n, F (tfN n) ≠ none → n < 8 * age + 8
def Rec (F : Fls) (age c : Nat) (mp : List Pr) : Prop := ∃ D, Ap F D ∧ ACa F D age c ∧ mapD D = mp
def Xl (F : Fls) (age c : Nat) (mp : List Pr) : Prop := ∀ G, Gr F G → Rec G age c mp
theorem Ob.mono {st : Db} {D : BK} {age age' c c' : Nat} (l : Ob st D age c) (h : age ≤ age') (hc : c ≤ c') : Ob st D age' c' :=
 ⟨by have := l.lseg; omega, by have := l.nseg; omega, by have := l.next; omega, by have := l.cnt; omega, by have := l.prs; omega, by have := l.ltop; omega, by have := l.ntop; omega⟩
theorem ACa.mono {F : Fls} {D : BK} {age age' c c' : Nat} (l : ACa F D age c) (h : age ≤ age') (hc : c ≤ c') : ACa F D age' c' :=
 ⟨by have := l.ltop; omega, by have := l.ntop; omega, by have := l.next; omega, by have := l.frm; omega, by have := l.cnt; omega, by have := l.prs; omega, fun n hn => by have := l.tfs n hn; omega⟩
theorem Rec.mono {F : Fls} {age age' c c' : Nat} {mp : List Pr} (r : Rec F age c mp) (h : age ≤ age') (hc : c ≤ c') : Rec F age' c' mp := by
 obtain ⟨D, h1, h2, h3⟩ := r
 exact ⟨D, h1, h2.mono h hc, h3⟩
theorem Xl.mono {F : Fls} {age age' c c' : Nat} {mp : List Pr} (r : Xl F age c mp) (h : age ≤ age') (hc : c ≤ c') : Xl F age' c' mp := fun G cr => (r G cr).mono h hc
theorem Gr.some {F G : Fls} (c : Gr F G) {x : ByteArray} (h : G x ≠ none) : F x ≠ none := fun hf => h (by
 have := c x; rw [hf] at this; exact this)
theorem DX.nmle {F : Fls} {st : Db} {D : BK} (L : DX F st D) : (Ac D).names.length = st.ts.length := by rw [L.names]; simp
theorem DX.tabsS {F : Fls} {st : Db} {D : BK} (L : DX F st D) : (Ac D).names.map D.T = G.tabsS st := by
 rw [L.names, List.map_map]
 exact List.map_congr_left fun p hp => L.tabs p hp
theorem DX.map {F : Fls} {st : Db} {D : BK} (L : DX F st D) : mapD D = BH st := by
 unfold mapD BH Ip
 rw [L.tabsS, ← L.fr]
theorem DX.ntok {F : Fls} {st : Db} {D : BK} (L : DX F st D) : Wn (Ac D) := ACf L.ok
theorem DX.nd {F : Fls} {st : Db} {D : BK} (L : DX F st D) : (st.ts.map (·.1)).Nodup := by rw [← L.names]; exact L.ntok.nd
theorem DX.rlim {F F' : Fls} {st : Db} {D : BK} {age c : Nat} (L : DX F st D) (l : Ob st D age c) (ht : ∀ n, F' (tfN n) ≠ none → n < 8 * age + 8) : ACa F' D age c := by
 have := L.next; have := l.next; have := L.lfrm; have := l.lseg
 exact ⟨by have := l.ltop; omega, by have := l.ntop; omega, by omega, by rw [L.frm]; omega, by rw [L.nmle]; exact l.cnt, l.prs, ht⟩
theorem DX.tlt {F : Fls} {st : Db} {D : BK} {age c : Nat} (L : DX F st D) (l : Ob st D age c) {n : Nat} (hn : F (tfN n) ≠ none) : n < st.next := by
 obtain ⟨p, hp, rfl⟩ := List.mem_map.1 (L.clean n hn)
 exact L.below p hp
theorem DX.tfree {F : Fls} {st : Db} {D : BK} {age c : Nat} (L : DX F st D) (l : Ob st D age c) : F (tfN st.next) = none := by
 cases hf : F (tfN st.next) with
 | none => rfl
 | some p => exact absurd (L.tlt l (n := st.next) (by rw [hf]; simp)) (by omega)
theorem DX.recS {F : Fls} {st : Db} {D : BK} {age c : Nat} (L : DX F st D) (l : Ob st D age c) : Xl F age c (BH st) := fun G cr => by
 refine ⟨D, L.ok.crash cr, L.rlim l fun n hn => ?_, L.map⟩
 have h1 := L.tlt l (cr.some hn)
 have := l.next; omega
theorem DX.recT {F F' : Fls} {st : Db} {D : BK} {age c : Nat} (L : DX F st D) (l : Ob st D age c) (hk : ∀ x, (∀ n, n ∉ st.ts.map (·.1) → x ≠ tfN n) → F' x = F x) (ht : ∀ n, F' (tfN n) ≠ none → n < 8 * age + 8) : Ap F' D ∧ Xl F' age c (BH st) := by
 have h1 : Ap F' D := L.ok.tput fun x hx => hk x fun n hn => hx n (by rw [L.names]; exact hn)
 exact ⟨h1, fun G cr => ⟨D, h1.crash cr, L.rlim l fun n hn => ht n (cr.some hn), L.map⟩⟩
theorem AF6 {D D' : BK} {f : Nat} (hL : D'.L = D.L) (ht : D'.ltop = D.ltop) (hf : (Ac D').frm = f) : FX D' = (List.range D.ltop).flatMap fun n => if n < f then [] else D.L n := by
 unfold FX
 rw [hL, ht, hf]
theorem Zg {D D' : BK} (hL : D'.L = D.L) (ht : D'.ltop = D.ltop) (hf : (Ac D').frm = (Ac D).frm) : FX D' = FX D := by
 rw [AF6 hL ht hf]; rfl
theorem AGx {D D' : BK} {f : Nat} (hL : D'.L = D.L) (ht : D'.ltop = D.ltop) (hf : (Ac D').frm = f) (hn : ∀ n, f ≤ n → D.L n = []) : FX D' = [] := by
 rw [AF6 hL ht hf, List.flatMap_eq_nil_iff]
 intro n _
 split
 ·rfl
 ·exact hn n (by omega)
theorem ACb {D D' : BK} (hL : D'.L = D.L) (ht : D'.ltop = D.ltop) (hl : Ac D' = Ac D) (hT : D'.T = D.T) : mapD D' = mapD D ∧ JZ D' = JZ D := by
 have e := Zg hL ht (congrArg Nt.frm hl)
 unfold mapD Cz JZ
 rw [e, hl, hT]
 exact ⟨rfl, rfl⟩
structure BA (B : Bud) (g h : Heap) (q : Hp) (k : Nat → Nat) (st : Db) (m : Bx) (D : BK) (age c : Nat) : Prop where
 mem : DbH g h q k st m
 up : m.down = false
 disk : DX (ff m) st D
 lim : Ob st D age c
 wt : wtF m.files ≤ B.W0 + age * B.K
 hc : c ≤ B.C
theorem BA.age {B : Bud} {g h : Heap} {q : Hp} {k : Nat → Nat} {st : Db} {m : Bx} {D : BK} {age age' c : Nat} (S : BA B g h q k st m D age c) (ha : age ≤ age') : BA B g h q k st m D age' c :=
 ⟨S.mem, S.up, S.disk, S.lim.mono ha (Nat.le_refl _), Nat.le_trans S.wt (Nat.add_le_add_left (Nat.mul_le_mul_right _ ha) _), S.hc⟩
theorem ACG (l : List (List Pr)) : M.total l = (l.map List.length).sum := rfl
theorem DX.cnt {F : Fls} {st : Db} {D : BK} (L : DX F st D) : JZ D = M.total (G.tabsS st) + (FX D).flatten.length := by
 unfold JZ
 rw [← L.tabsS, ACG, List.map_map]; rfl
theorem AAM (D : BK) : (Cz D).length ≤ (FX D).flatten.length := by
 have := M.MW (l := (FX D).flatten) (t := [])
 unfold Cz; simpa using this
theorem DX.frlen {F : Fls} {st : Db} {D : BK} {age c : Nat} (L : DX F st D) (l : Ob st D age c) : st.fr.length + M.total (G.tabsS st) ≤ c := by
 have h1 := L.cnt
 have h2 := AAM D
 have h3 := l.prs
 rw [L.fr]; omega
theorem DX.alllen {F : Fls} {st : Db} {D : BK} {age c : Nat} (L : DX F st D) (l : Ob st D age c) : (Al (st.fr :: G.tabsS st)).length ≤ c := by
 have h1 := M.LG (st.fr :: G.tabsS st)
 rw [M.YV] at h1
 have := L.frlen l; omega
theorem DX.leftlen {F : Fls} {st : Db} {D : BK} {age c : Nat} (L : DX F st D) (l : Ob st D age c) : (EQ (G.tabsS st)).length ≤ M.total (G.tabsS st) := by
 have h1 := M.LG (G.tabsS st)
 have h2 := TY (Al (G.tabsS st))
 unfold EQ; omega
end Go.Lf.G

