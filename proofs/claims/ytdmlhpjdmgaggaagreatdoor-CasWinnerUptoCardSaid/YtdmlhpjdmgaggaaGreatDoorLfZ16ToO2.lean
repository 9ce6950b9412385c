/-
 Contract: a store is opened as it was left (chapter 9).
-/
import Derived.Test.YtdmlhpjdmgaggaaGreatDoorLfZ13ToZ15
import Derived.Test.YtdmlhpjdmgaggaaGreatDoorLfS1aToU17
import Derived.Test.YtdmlhpjdmgaggaaGreatDoorCards
import Derived.Test.YtdmlhpjdmgaggaaGreatDoorTie
import Derived.Deep.DeepHandedRow
import Derived.Lib.LaidTab
import Derived.Stop.LaidErr
set_option linter.unusedVariables false
set_option linter.unusedSimpArgs false
set_option maxRecDepth 100000
set_option linter.unusedVariables false
set_option linter.unusedSimpArgs false
namespace Go.Lf.G
open Go
open M (Sorted Ah Df BL Al BF CZ Au OkL Bo)
def HY (D : BK) : List (Nat × List Pr) := (List.range D.ltop).flatMap fun n => (D.L n).map fun b => (n, b)
def Kz (f : Nat) (l : List (Nat × List Pr)) : List (List Pr) := (l.filter fun p => decide (f ≤ p.1)).map (·.2)
theorem R5 (f : Nat) (a b : List (Nat × List Pr)) : Kz f (a ++ b) = Kz f a ++ Kz f b := by simp [Kz]
theorem AF0 (D : BK) : Kz (Ac D).frm (HY D) = FX D := by
 unfold HY FX
 have key : ∀ L : List Nat, Kz (Ac D).frm (L.flatMap fun n => (D.L n).map fun b => (n, b)) = L.flatMap fun n => if n < (Ac D).frm then [] else D.L n := by
  intro L
  induction L with
  | nil => rfl
  | cons n L ih =>
   rw [List.flatMap_cons, List.flatMap_cons, R5, ih]
   congr 1
   unfold Kz
   rw [List.filter_map]
   split
   ·rename_i h
    have : (fun b : List Pr => decide ((Ac D).frm ≤ ((n, b) : Nat × List Pr).1)) = fun _ => false := by
     funext b; simp; omega
    simp [Function.comp_def]; omega
   ·rename_i h
    simp [Function.comp_def]
    intro b _; omega
 exact key _
theorem AJ2 {F : Fls} {D : BK} (h : Ap F D) : ∀ p ∈ HY D, p.1 ≤ 99999999 ∧ TJ p.2 := fun p hp => by
 obtain ⟨n, hn, hb⟩ := List.mem_flatMap.1 hp
 obtain ⟨b, hb', rfl⟩ := List.mem_map.1 hb
 have := List.mem_range.1 hn
 have := h.tops
 exact ⟨by show n ≤ _; omega, h.bat n b hb'⟩
theorem AG4 (D : BK) : ((List.range D.ltop).flatMap fun n => (D.L n).map (Ay n)).map Aa = (HY D).map fun p => Aa (Ay p.1 p.2) := by
 unfold HY
 rw [List.map_flatMap, List.map_flatMap]
 unfold List.flatMap
 congr 1
 refine List.map_congr_left fun n _ => ?_
 rw [List.map_map, List.map_map]; rfl
theorem AJy {f : Nat} {l : List (Nat × List Pr)} (i : Nat) : (Kz f (l.take i)).flatten.length ≤ (Kz f l).flatten.length := by
 conv => rhs; rw [← List.take_append_drop i l, R5, List.flatten_append, List.length_append]
 omega
theorem AE9 (D : BK) : ((List.range D.ntop).flatMap fun n => (D.N n).map Ck).map Aa = (Jd D).map fun x => Aa (Ck x) := by
 unfold Jd
 rw [List.map_flatMap, List.map_flatMap]
 unfold List.flatMap
 congr 1
 exact List.map_congr_left fun n _ => by rw [List.map_map]; rfl
theorem View.modn {α : Type} {E : Enc α} {h h' : Heap} {s : Sl} {l : List α} {S : Nat → Prop} (v : View E h s l) (m : Mod S h h') (hS : ∀ c, s.blk = some c → c < h.size → ¬ S c) : View E h' s l := by
 refine ⟨v.len, v.cap, fun i x hi => ?_⟩
 obtain ⟨a, ha, hc⟩ := v.cells i x hi
 refine ⟨a, ha, hc.mod m ?_⟩
 have hp := E.pos
 have hl := E.len x
 obtain ⟨u, hu⟩ : ∃ u, (E.enc x)[0]? = some u := ⟨_, List.getElem?_eq_getElem (by omega)⟩
 have := Sv (hc 0 u hu)
 rw [add_block, add_block] at this
 rw [add_block]
 exact hS _ (by simp [Sl.blk, ha]) this
section
variable {A : Amb} {B : Bud} {g h : Heap} {b : Nat} {Sb : Nat → Prop} {m : Bx} {D : BK} {age c : Nat} {R : Value → Heap → Prop}
theorem ADg (E : Evn g) (Bx0 : BV h b Sb m) (hx : Ext g h) (hSb : ∀ c, Sb c → g.size ≤ c) (hd : m.down = false) (hD : Ap (ff m) D) (hR : ACa (ff m) D age c) (hc : c ≤ B.C) (hA : age + 1 ≤ B.A) (hw : wtF m.files ≤ B.W0 + age * B.K)
  (H0 : m.fuel ≠ -1 → ∀ h' d S' m', BV h' b S' m' → m'.down = true → Mod Sb h h' → (∀ c, S' c → Sb c ∨ h.size ≤ c) → Xl (ff m') (age + 1) c (mapD D) → (∀ y, ¬ Mine y → ff m' y = ff m y) → wtF m'.files ≤ B.W0 + (age + 1) * B.K → R (.tuple #[BC d, .int .i64 30]) h')
  (H1 : ∀ h' q' k' st' m' D', q'.b = b → BA B g h' q' k' st' m' D' (age + 1) c → GQ m m' → BH st' = mapD D → (∀ y, ¬ Mine y → ff m' y = ff m y) → Mod Sb h h' → (∀ c, k' c ≠ 0 → Sb c ∨ h.size ≤ c) → R (.tuple #[BC q'.d, .int .i64 0]) h') :
  AA A P I8 #[BC b] h R := by
 have hBA := B.hA
 have hBC := B.hC
 have hW8 := Nat.le_trans hw (B.wt (a := age) (by omega))
 have htops := hD.tops
 have hN := ACf hD
 have hlt0 := hR.ltop
 have hnt0 := hR.ntop
 have hfr0 := hR.frm
 have hnx0 := hR.next
 have hcn0 := hR.cnt
 have Sblt : ∀ c, Sb c → c < h.size := fun c hc => Bx0.lt hc
 refine AC2 ?_
 unfold RI
 refine AFs (E.ext hx) Bx0 hd (by decide) (by decide) hW8 (fun h' l SL hl _ => ?_) fun h1 l nt sl SL hl x1 hnt L1 v1 f1 => ⟨_, _, _, rfl, PIf.no rfl ?_⟩
 ·obtain ⟨_, r2, _⟩ := TQ hd hD.note SL htops.2.2
  omega
 obtain ⟨r1, r2, r3⟩ := TQ hd hD.note SL htops.2.2
 rw [AE9] at r1
 have hrl := Wv (nm := nn) (m := m) hd SL.inc
 rw [r1] at v1 hrl
 have hns1 : 1 ≤ l.getLast?.getD 0 + 1 := by omega
 generalize l.getLast?.getD 0 + 1 = nseg at *
 refine M.AHI fun h2 T2 x2 s2 => ⟨_, rfl, New.mk fun h3 _ hb3 x3 s3 => ?_⟩
 have x02 := x1.trans x2
 have x03 := x02.trans x3
 have ntlt : nt < h1.size := Am L1
 have L3 : Cv h3 nt b nn nseg false := Cv.ext (Cv.ext L1 x2) x3
 have T3 : M.Tab h3 h1.size [] [] := T2.ext x3
 have v3 := (v1.ext x2).ext x3
 have sz01 := x1.size
 refine Join.mk fun K hK => ?_
 have main : ∀ (hB : Heap) (np : Sl), Ext h hB → hB[h2.size]? = some (.cells #[BC b, .pointer none, BC nt, BC h1.size, .slice none 0 0, .slice np.p np.len np.cap, .int .i64 ((Ac D).next : Int), .int .i64 ((Ac D).frm : Int), .bool false] De (0, 0)) →
   Own EZ BO hB np ((Ac D).names.map fun n : Nat => (n : Int)) → (∀ c, np.blk = some c → h2.size < c) → Cv hB nt b nn nseg false → M.Tab hB h1.size [] [] → K () hB := by
  intro hB np xB cB onB hnp LB TB
  refine hK _ _ ?_
  have szB := xB.size
  have EB := E.ext (hx.trans xB)
  have hd2 : h2.size < hB.size := Am cB
  have dge : h.size ≤ h2.size := x02.size
  refine AQ.mk (s := np) (AB cB rfl) ?_
  have npl : np.len = (Ac D).names.length := by rw [onB.len]; simp
  refine Loop.rule (fun mm x hh => ∃ (i : Nat) (tp : Sl) (ps : List Nat), x = ((i : Int), ()) ∧ mm = (Ac D).names.length - i ∧ i ≤ (Ac D).names.length ∧ Mod (fun c => c = h2.size ∨ hB.size ≤ c) hB hh ∧
    hh[h2.size]? = some (.cells #[BC b, .pointer none, BC nt, BC h1.size, .slice tp.p tp.len tp.cap, .slice np.p np.len np.cap, .int .i64 ((Ac D).next : Int), .int .i64 ((Ac D).frm : Int), .bool false] De (0, 0)) ∧
    Own PtE Aq hh tp ps ∧ ps.length = i ∧ (∀ c, tp.blk = some c → hB.size ≤ c) ∧ ∀ (j t n : Nat), ps[j]? = some t → (Ac D).names[j]? = some n → ∃ lo hi, TabAt hh t (D.T n) (JS (D.T n)) lo hi ∧ hB.size ≤ lo ∧ hi ≤ hh.size ∧ ∀ c, tp.blk = some c → ¬ (lo ≤ c ∧ c < hi)) ?_
   ⟨0, ⟨none, 0, 0⟩, [], rfl, rfl, Nat.zero_le _, Mod.refl, cB, Own.nil, rfl, fun c hc => by simp [Sl.blk] at hc, fun j t n e => by simp at e⟩
  rintro K1 mm _ hh ⟨i, tp, ps, rfl, rfl, hi, mdi, ci, ot, hpl, htp, tab⟩ hK1
  dsimp only
  have szi := mdi.size
  have xi : Ext h hh := xB.then (mdi.weak fun c _ hc => by omega)
  have vn : View EZ hh np ((Ac D).names.map fun n : Nat => (n : Int)) := onB.view.mod mdi fun c hc e => by
   have := hnp c hc
   have := onB.lt hc
   omega
  rw [npl]
  refine PIf.intro (fun hq => ?_) (fun hq => ?_)
  ·have hil : i < (Ac D).names.length := by have := of_decide_eq_true hq; omega
   have hget : (Ac D).names[i]? = some (Ac D).names[i] := List.getElem?_eq_getElem hil
   have hmem : (Ac D).names[i] ∈ (Ac D).names := List.getElem_mem hil
   have hbl := hN.below _ hmem
   have hnn := hN.next
   have hcc := hN.cnt
   obtain ⟨ft1, ft2⟩ := hD.tab _ hmem
   rw [← npl]
   refine vn.idx (i := i) (x := ((Ac D).names[i] : Int)) (by rw [List.getElem?_map, hget]; rfl) fun a _ ca => AZ.mk ca.int ?_
   generalize (Ac D).names[i] = nm at *
   refine MI (E.ext (hx.trans xi)) (by omega) fun h6 x6 => ⟨_, rfl, ?_⟩
   refine Xb (Bx0.ext (xi.trans x6)) ⟨_, _, rfl, ?_⟩
   rw [ABi hd, ft1]
   dsimp only
   rw [NT]
   refine PIf.no rfl ?_
   refine ADj ft2.tabS fun h8 t x8 T8 => ⟨_, _, rfl, PIf.no rfl ?_⟩
   have x68 := x6.trans x8
   have c8 := Ab x68 ci
   refine AQ.mk (s := tp) (AB c8 rfl) ?_
   have sz6 := x6.size
   have sz8 := x8.size
   refine New.append1 (E := PtE) (x := t) (s := tp) (l := ps) rfl AIX (ot.ext x68) (by omega) (by simp [maxLen]; omega) fun s' h10 o10 m10 b10 _ => ?_
   have c10 := m10.blk c8 (fun e => by have := htp _ e; omega)
   refine Store.mk1 c10 (by simp) fun h11 hb11 m11 s11 => ?_
   rw [AR (by omega)]
   have sb : ∀ c, s'.blk = some c → hB.size ≤ c := fun c hc => by
    rcases b10 c hc with h | h
    ·exact htp c h
    ·omega
   have sz10 := m10.size
   refine hK1 ((Ac D).names.length - (i + 1)) _ _ (by omega) ⟨i + 1, s', ps ++ [t], rfl, rfl, hil, ?_, by simpa using hb11, o10.mod m11 (fun c hc e => by have := sb c hc; omega), by simp [hpl], sb, fun j t' n e1 e2 => ?_⟩
   ·exact (mdi.trans (Ext.mod x68)).trans ((m10.weak fun c _ hc => .inr (htp c hc)).trans (m11.weak fun c _ hc => .inl hc))
   ·by_cases hj : j < ps.length
    ·rw [List.getElem?_append_left hj] at e1
     obtain ⟨lo, hi', T1, t1, t2, t3⟩ := tab j t' n e1 e2
     refine ⟨lo, hi', ((T1.ext x68).mod m10 fun c c1 c2 hc => t3 c hc ⟨c1, c2⟩).mod m11 (fun c c1 c2 hc => by omega), t1, by omega, fun c hc hr => ?_⟩
     rcases b10 c hc with h | h
     ·exact t3 c h hr
     ·omega
    ·have hj2 : j = ps.length := by
      have := (List.getElem?_eq_some_iff.1 e1).1
      simp at this; omega
     subst hj2
     rw [List.getElem?_append_right (Nat.le_refl _)] at e1
     simp at e1
     subst e1
     rw [hpl, hget] at e2
     cases e2
     refine ⟨h6.size, h8.size, (T8.mod m10 fun c c1 c2 hc => by have := ot.lt hc; omega).mod m11 (fun c c1 c2 hc => by omega), by omega, by omega, fun c hc hr => ?_⟩
     rcases b10 c hc with h | h
     ·have := ot.lt h; omega
     ·omega
  have hil : i = (Ac D).names.length := by have := of_decide_eq_false hq; omega
  clear hK1 hi hq
  have LC : Cv hh nt b nn nseg false := LB.mod mdi (by omega)
  have TC : M.Tab hh h1.size [] [] := TB.mod mdi fun c hc e => by
   rcases hc with rfl | ⟨y, hy, _⟩
   ·omega
   ·cases hy
  refine AFs (E.ext (hx.trans xi)) (Bx0.ext xi) hd (by decide) (by decide) hW8 (fun h' l' SL' hl' _ => ?_) fun h12 l' lg sl' SL' hl' x12 hlg L12 v12 f12 => ⟨_, _, _, rfl, PIf.no rfl ?_⟩
  ·obtain ⟨_, q2, _⟩ := TQ hd hD.log SL' ⟨htops.1, htops.2.1⟩
   omega
  obtain ⟨q1, q2, q3⟩ := TQ hd hD.log SL' ⟨htops.1, htops.2.1⟩
  rw [AG4] at q1
  have hrl2 := Wv (nm := nl) (m := m) hd SL'.inc
  rw [q1] at v12 hrl2
  have hls1 : 1 ≤ l'.getLast?.getD 0 + 1 := by omega
  generalize l'.getLast?.getD 0 + 1 = lseg0 at *
  have c12 := Ab x12 ci
  have lglt : lg < h12.size := Am L12
  refine Store.mk1 c12 (by simp) fun h13 hb13 m13 s13 => ?_
  have sz12 := x12.size
  have dlh : h2.size < hh.size := Am ci
  have L13 : Cv h13 lg b nl lseg0 false := Cv.mod L12 m13 (by omega)
  have B13 : BV h13 b Sb m := ((Bx0.ext xi).ext x12).mod m13 fun c hc e => by have := Sblt c hc; omega
  have nSlg : ¬ Sb lg := fun hc => by have := Sblt _ hc; have := xi.size; omega
  have x013 : Ext h h13 := (xi.trans x12).then (m13.weak fun c _ hc => .inr (by omega))
  have sz13 := m13.size
  refine Loop.rule (fun mm (_ : Unit) hx => ∃ s : Nat, mm = (Ac D).frm - s ∧ Cv hx lg b nl s false ∧ BV hx b Sb m ∧ Mod (fun c => Sb c ∨ c = lg) h13 hx ∧ lseg0 ≤ s ∧ (s = lseg0 ∨ s ≤ (Ac D).frm)) ?_ ⟨lseg0, rfl, L13, B13, Mod.refl, Nat.le_refl _, .inl rfl⟩
  rintro K2 mm _ h14 ⟨s, rfl, L14, B14, md14, hs1, hs2⟩ hK2
  have hN2 := hN.frm
  have c14 := md14.blk hb13 (by rintro (h | h); have := Sblt _ h; omega; omega)
  have x14g : Ext g h14 := (hx.trans x013).then (md14.weak fun c _ hc => by
   rcases hc with hc | rfl
   ·exact .inr (hSb c hc)
   ·exact .inr (by have := hx.size; have := xi.size; omega))
  have ev14 : Evn h14 := E.ext x14g
  refine AU.mk (AB c14 rfl) ?_
  refine KY ?_
  unfold F7
  refine PIf.no rfl (atI (AZ.mk (AB L14 rfl) ⟨_, rfl, ?_⟩))
  refine AZ.mk (AB c14 rfl) ⟨AB c14 rfl, ?_⟩
  refine PIf.intro (fun hq2 => ?_) (fun hq2 => ?_)
  ·have hlt := of_decide_eq_true hq2
   refine AU.mk (AB c14 rfl) ?_
   refine RN ev14 L14 B14 nSlg (by decide) (by omega) (fun hne => absurd rfl hne) fun _ h16 B16 L16 m16 => ⟨_, _, rfl, PIf.no rfl ?_⟩
   exact hK2 ((Ac D).frm - (s + 1)) _ _ (by omega) ⟨s + 1, rfl, L16, B16, md14.trans m16, by omega, .inr (by omega)⟩
  have hfs : (Ac D).frm ≤ s := by have := of_decide_eq_false hq2; omega
  clear hK2
  have sz14 := md14.size
  have v14 : View EC h14 sl' ((HY D).map fun p => Aa (Ay p.1 p.2)) := (v12.mod m13 fun c hc e => by have := (f12 c hc).1; omega).mod md14 fun c hc e => by
   have h1 := f12 c hc
   rcases e with e | e
   ·have := Sblt c e; have := xi.size; omega
   ·exact h1.2 e
  have hsl : ∀ c, sl'.blk = some c → hh.size ≤ c := fun c hc => (f12 c hc).1
  have T14 : M.Tab h14 h1.size [] [] := ((TC.ext x12).mod m13 fun c hc e => by
   rcases hc with rfl | ⟨y, hy, _⟩
   ·omega
   ·cases hy).mod md14 fun c hc e => by
   rcases hc with rfl | ⟨y, hy, _⟩
   ·rcases e with e | e
    ·have := Sblt _ e; omega
    ·have := xi.size; omega
   ·cases hy
  have vlen : sl'.len = (HY D).length := by rw [v14.len]; simp
  have hcB := AJ2 hD
  have hcnt := hR.prs
  have hbD : (Kz (Ac D).frm (HY D)).flatten.length ≤ c := by
   rw [AF0]
   have : JZ D = _ := rfl
   unfold JZ at hcnt
   omega
  refine Loop.rule (fun mm xx hy => ∃ (i : Nat) (ns : List M.CK), xx = ((i : Int), ()) ∧ mm = (HY D).length - i ∧ i ≤ (HY D).length ∧ Mod (fun c => c = h1.size ∨ h14.size ≤ c) h14 hy ∧ M.Tab hy h1.size ns (BL [] (Kz (Ac D).frm ((HY D).take i)).flatten) ∧ ∀ c, M.inT h1.size ns c → c = h1.size ∨ h14.size ≤ c) ?_
   ⟨0, [], rfl, rfl, Nat.zero_le _, Mod.refl, T14, fun c hc => by
    rcases hc with rfl | ⟨y, hy, _⟩
    ·exact .inl rfl
    ·cases hy⟩
  rintro K3 mm _ h17 ⟨i, ns, rfl, rfl, hi, md17, T17, hns⟩ hK3
  dsimp only
  have sz17 := md17.size
  have v17 := View.modn v14 md17 fun c hc hlt e => by have := hsl c hc; omega
  have c17 := md17.blk c14 (by omega)
  rw [vlen]
  refine PIf.intro (fun hq => ?_) (fun hq => ?_)
  ·have hil : i < (HY D).length := by have := of_decide_eq_true hq; omega
   have hget : (HY D)[i]? = some (HY D)[i] := List.getElem?_eq_getElem hil
   obtain ⟨hp1, hp2⟩ := hcB _ (List.getElem_mem hil)
   have htk : (HY D).take (i + 1) = (HY D).take i ++ [(HY D)[i]] := by rw [List.take_add_one, hget]; rfl
   have hsn := AJy (f := (Ac D).frm) (l := HY D) (i + 1)
   refine Join.mk fun K4 hK4 => ?_
   rw [← vlen]
   refine v17.idx (i := i) (x := Aa (Ay (HY D)[i].1 (HY D)[i].2)) (by rw [List.getElem?_map, hget]; rfl) fun a _ ca => AC.mk ca.str ?_
   have wi : IntKind.wrap .i64 ((i : Int) + (1 : Int)) = ((i + 1 : Nat) : Int) := AR (by rw [List.length_map] at hrl2; omega)
   rw [wi] at hK4
   generalize (HY D)[i] = pp at *
   obtain ⟨sg, bt⟩ := pp
   dsimp only at hp1 hp2 ⊢
   refine AE5 hp1 hp2.len hp2.ok fun s19 h19 o19 x19 f19 => ⟨_, _, _, rfl, PIf.no rfl ?_⟩
   have c19 := Ab x19 c17
   refine AZ.mk (AB c19 rfl) ?_
   refine PIf.intro (fun hq3 => ?_) (fun hq3 => ?_)
   ·have hlt := of_decide_eq_true hq3
    refine hK4 _ _ (hK3 ((HY D).length - (i + 1)) _ _ (by omega) ⟨i + 1, ns, rfl, rfl, hil, md17.trans (Ext.mod x19), ?_, hns⟩)
    have e : Kz (Ac D).frm ((HY D).take (i + 1)) = Kz (Ac D).frm ((HY D).take i) := by
     rw [htk, R5]
     have : Kz (Ac D).frm [(sg, bt)] = [] := by
      unfold Kz
      rw [List.filter_cons, if_neg (by simp; omega)]; rfl
     rw [this, List.append_nil]
    rw [e]
    exact T17.ext x19
   ·have hge : (Ac D).frm ≤ sg := by have := of_decide_eq_false hq3; omega
    have e : (Kz (Ac D).frm ((HY D).take (i + 1))).flatten = (Kz (Ac D).frm ((HY D).take i)).flatten ++ bt := by
     rw [htk, R5]
     have : Kz (Ac D).frm [(sg, bt)] = [bt] := by
      unfold Kz
      rw [List.filter_cons, if_pos (by simpa using hge)]; rfl
     rw [this]; simp
    rw [e, List.length_append] at hsn
    have sz19 := x19.size
    refine Loop.rule (fun mm xx hz => ∃ (j : Nat) (ns' : List M.CK), xx = ((j : Int), ()) ∧ mm = bt.length - j ∧ j ≤ bt.length ∧ Mod (fun c => c = h1.size ∨ h14.size ≤ c) h14 hz ∧ M.Tab hz h1.size ns' (BL (BL [] (Kz (Ac D).frm ((HY D).take i)).flatten) (bt.take j)) ∧ (∀ c, M.inT h1.size ns' c → c = h1.size ∨ h14.size ≤ c) ∧ View Af hz s19 bt ∧ (∀ c, s19.blk = some c → ¬ M.inT h1.size ns' c) ∧ h19.size ≤ hz.size) ?_
     ⟨0, ns, rfl, rfl, Nat.zero_le _, md17.trans (Ext.mod x19), T17.ext x19, hns, o19.view, fun c hc hI => by have := f19 c hc; have := T17.lt hI; omega, Nat.le_refl _⟩
    rintro K5 mm _ h20 ⟨j, ns', rfl, rfl, hj, md20, T20, hns', v20, f20, z20⟩ hK5
    dsimp only
    have c20 := md20.blk c14 (by omega)
    have hb64 := hp2.len
    rw [v20.len]
    refine PIf.intro (fun hq => ?_) (fun hq => ?_)
    ·have hjl : j < bt.length := by have := of_decide_eq_true hq; omega
     have hgj : bt[j]? = some bt[j] := List.getElem?_eq_getElem hjl
     rw [← v20.len]
     refine v20.idx hgj fun a _ ca => ?_
     obtain ⟨k0, k1, k2⟩ := ca.pair
     refine AC.mk k0 (AC.mk k1 (AY.mk k2 (New.pair fun b3 h24 _ hb24 x24 s24 => ?_)))
     have c24 := Ab x24 c20
     refine AU.mk (AB c24 rfl) ?_
     refine AC.mk (AJ hb24 rfl) (AC.mk (AB hb24 rfl) (AY.mk (AB hb24 rfl) ?_))
     have l1 := M.MW (l := (Kz (Ac D).frm ((HY D).take i)).flatten) (t := [])
     have l2 := M.MW (l := bt.take j) (t := BL [] (Kz (Ac D).frm ((HY D).take i)).flatten)
     rw [List.length_take] at l2
     simp only [List.length_nil, Nat.zero_add] at l1
     refine M.AFY (x := bt[j]) (T20.ext x24) (by omega) fun ns'' h25 T25 m25 s25 => ⟨_, rfl, ?_⟩
     rw [AR (by omega)]
     have sz20 := md20.size
     have sz24 := x24.size
     refine hK5 (bt.length - (j + 1)) _ _ (by omega) ⟨j + 1, ns'', rfl, rfl, hjl, (md20.trans (Ext.mod x24)).trans (m25.weak fun c _ hc => hns' c hc), by rw [M.X8 hgj]; exact T25, fun c hc => ?_, (v20.ext x24).mod m25 (fun c hc hI => f20 c hc hI), fun c hc hI => ?_, by have := m25.size; omega⟩
     ·rcases s25 c hc with h | h
      ·exact hns' c h
      ·exact .inr (by omega)
     ·rcases s25 c hI with h | h
      ·exact f20 c hc h
      ·have := o19.lt hc
       omega
    ·have hjl : j = bt.length := by have := of_decide_eq_false hq; omega
     subst hjl
     rw [List.take_length] at T20
     refine hK4 _ _ (hK3 ((HY D).length - (i + 1)) _ _ (by omega) ⟨i + 1, ns', rfl, rfl, hil, md20, ?_, hns'⟩)
     rw [e, ACP]
     exact T20
  have hil3 : i = (HY D).length := by have := of_decide_eq_false hq; omega
  subst hil3
  rw [List.take_length, AF0] at T17
  clear hK3
  have ke : Mod (fun c => c = h2.size) hh h13 := (Ext.mod x12).trans m13
  have keep : ∀ c, hB.size ≤ c → c < hh.size → ¬ (c = h2.size) ∧ ¬ (Sb c ∨ c = lg) ∧ ¬ (c = h1.size ∨ h14.size ≤ c) := fun c c1 c2 => by
   refine ⟨by omega, ?_, by omega⟩
   rintro (h | h)
   ·have := Sblt c h; have := xB.size; omega
   ·omega
  have keep2 : ∀ c, h.size ≤ c → c < hh.size → c ≠ h2.size → c ≠ h1.size → ¬ (c = h2.size) ∧ ¬ (Sb c ∨ c = lg) ∧ ¬ (c = h1.size ∨ h14.size ≤ c) := fun c c1 c2 c3 c4 => by
   refine ⟨c3, ?_, by omega⟩
   rintro (h | h)
   ·have := Sblt c h; omega
   ·omega
  have ot17 : Own PtE Aq h17 tp ps := ((ot.mod ke fun c hc => (keep c (htp c hc) (ot.lt hc)).1).mod md14 fun c hc => (keep c (htp c hc) (ot.lt hc)).2.1).mod md17 fun c hc => (keep c (htp c hc) (ot.lt hc)).2.2
  have nplt : ∀ c, np.blk = some c → h.size ≤ c ∧ c < hh.size ∧ c ≠ h2.size ∧ c ≠ h1.size := fun c hc => by have := hnp c hc; have := onB.lt hc; omega
  have on17 : Own EZ BO h17 np ((Ac D).names.map fun n : Nat => (n : Int)) := (((onB.mod mdi fun c hc e => by have := nplt c hc; have := onB.lt hc; omega).mod ke fun c hc => (keep2 c (nplt c hc).1 (nplt c hc).2.1 (nplt c hc).2.2.1 (nplt c hc).2.2.2).1).mod md14 fun c hc => (keep2 c (nplt c hc).1 (nplt c hc).2.1 (nplt c hc).2.2.1 (nplt c hc).2.2.2).2.1).mod md17 fun c hc => (keep2 c (nplt c hc).1 (nplt c hc).2.1 (nplt c hc).2.2.1 (nplt c hc).2.2.2).2.2
  have kn := keep2 nt hnt (by omega) (by omega) (by omega)
  have LN17 : Cv h17 nt b nn nseg false := ((LC.mod ke kn.1).mod md14 kn.2.1).mod md17 kn.2.2
  have LL17 : Cv h17 lg b nl s false := L14.mod md17 (by omega)
  have BB17 : BV h17 b Sb m := B14.mod md17 fun c hc => by have := Sblt c hc; omega
  have x17g : Ext g h17 := x14g.then (md17.weak fun c _ hc => .inr (by have := hx.size; omega))
  have tab17 : ∀ (i : Nat) (t : Nat) (p : Nat × List Pr), ps[i]? = some t → ((Ac D).names.map fun n => (n, D.T n))[i]? = some p → ∃ lo hi, TabAt h17 t p.2 (JS p.2) lo hi ∧ hB.size ≤ lo ∧ hi ≤ hh.size ∧ (∀ c, tp.blk = some c → ¬ (lo ≤ c ∧ c < hi)) ∧ Eu p.2 := fun i' t p e1 e2 => by
   rw [List.getElem?_map] at e2
   cases hg : (Ac D).names[i']? with
   | none => rw [hg] at e2; cases e2
   | some n =>
    rw [hg] at e2
    cases e2
    obtain ⟨lo, hi', T1, t1, t2, t3⟩ := tab i' t n e1 hg
    refine ⟨lo, hi', ((T1.mod ke fun c c1 c2 => (keep c (by omega) (by omega)).1).mod md14 fun c c1 c2 => (keep c (by omega) (by omega)).2.1).mod md17 fun c c1 c2 => (keep c (by omega) (by omega)).2.2, t1, t2, t3, (hD.tab n (List.mem_of_getElem? hg)).2⟩
  have enm : ((Ac D).names.map fun n => (n, D.T n)).map (·.1) = (Ac D).names := by rw [List.map_map]; exact List.map_id _
  obtain ⟨k0, W0, hk0⟩ := DbH.make (g := g) (h := h17) (q := ⟨h2.size, b, lg, nt, h1.size, Sb, ns, tp, np, ps⟩) (st := ⟨Cz D, (Ac D).names.map fun n => (n, D.T n), (Ac D).next, (Ac D).frm, s, nseg, false⟩) (m := m) (N0 := h.size) (NB := hB.size) (NC := hh.size) (ND := h14.size)
   (by simpa [dbC] using c17) BB17 LL17 LN17 T17 ot17 (by simp [hpl, hil]) (by unfold nmS; rw [List.map_map]; exact on17) x17g hx.size (fun c hc => ⟨hSb c hc, Sblt c hc⟩)
   hnt ntlt (by show h1.size < h2.size; omega) hd2 szi hlg (by show lg < h14.size; omega) (fun c hc => ⟨hnp c hc, onB.lt hc⟩) (fun c hc => ⟨htp c hc, ot.lt hc⟩) hns tab17 (by omega)
  have modSb : Mod Sb h h17 := by
   refine ⟨by have := x013.size; omega, fun c hc hn => ?_⟩
   have e1 := x013.get c hc (fun h => h)
   have sz := x013.size
   have e2 := md14.get c (by omega) (by rintro (h | h); exact hn h; have := xi.size; omega)
   have e3 := md17.get c (by omega) (by omega)
   exact e3.trans (e2.trans e1)
  have sz017 := modSb.size
  have fFt : ∀ n, ff m (tfN n) ≠ none → n < 8 * age + 8 := hR.tfs
  have hflen := Nh m.files
  refine AHl (N := 8 * age + 8) (q := ⟨h2.size, b, lg, nt, h1.size, Sb, ns, tp, np, ps⟩) E W0 hd hD enm.symm (by omega) fFt hnx0 (by simp; omega) (by omega)
   (fun hfu h18 S18 m18 B18 d18 md18 s18 dk18 fr18 sub18 wt18 => ⟨_, rfl, ?_⟩) fun h18 S18 k18 m18 nx18 W18 st18 dk18 fr18 cl18 nx1 nx2 wt18 md18 kk18 => ⟨_, rfl, ?_⟩
  ·refine H0 hfu h18 h2.size S18 m18 B18 d18 (modSb.then (md18.weak fun c _ hc => hk0 c hc)) (fun c hc => ?_) (fun G cr => ⟨D, dk18.crash cr, ?_, rfl⟩) (fun y hy => fr18 y fun n => Mj hy n) (Nat.le_trans wt18 (B.up (Nat.le_succ _) hw))
   ·rcases s18 c hc with h | h
    ·exact hk0 c h
    ·exact .inr (by omega)
   ·refine ACa.mono ⟨hR.ltop, hR.ntop, hR.next, hR.frm, hR.cnt, hR.prs, fun n hn => fFt n (sub18 n (cr.some hn))⟩ (Nat.le_succ _) (Nat.le_refl _)
  ·have ffl : ∀ n, ff m18 (fnB nl n) = ff m (fnB nl n) := fun n => fr18 _ (Iy n)
   have ffn : ∀ n, ff m18 (fnB nn n) = ff m (fnB nn n) := fun n => fr18 _ (Kg n)
   have L18 : DX (ff m18) ⟨Cz D, (Ac D).names.map fun n => (n, D.T n), nx18, (Ac D).frm, s, nseg, false⟩ D :=
    ⟨dk18, enm.symm, fun p hp => by
     obtain ⟨n, _, rfl⟩ := List.mem_map.1 hp
     rfl, rfl, nx1, fun p hp => by
     obtain ⟨n, hn, rfl⟩ := List.mem_map.1 hp
     have h1 := hN.below n hn
     have h2 : (Ac D).next ≤ nx18 := nx1
     show n < nx18
     omega, rfl, fun n n1 n9 _ => by
     have n1 : s ≤ n := n1
     rw [ffl]; exact q3 n (by omega) n9, (fun h => by cases h), fun n n1 n9 => by rw [ffn]; exact r3 n n1 n9, ⟨hN.frm.1, hfs⟩, hns1, fun n hn => cl18 n hn⟩
   have lim18 : Ob ⟨Cz D, (Ac D).names.map fun n => (n, D.T n), nx18, (Ac D).frm, s, nseg, false⟩ D (age + 1) c := by
    have nx2' : nx18 ≤ 8 * age + 8 := nx2
    exact ⟨by show s ≤ _; omega, by show nseg ≤ _; omega, by show nx18 ≤ _; omega, by show ((Ac D).names.map _).length ≤ _; simp; omega, hR.prs, by omega, by omega⟩
   refine H1 h18 _ k18 _ m18 D rfl ⟨W18, st18.up, L18, lim18, Nat.le_trans wt18 (B.up (Nat.le_succ _) hw), hc⟩ st18 L18.map.symm (fun y hy => fr18 y fun n => Mj hy n) (modSb.then (md18.weak fun c _ hc => hk0 c hc)) fun c hc => ?_
   rcases kk18 c hc with h | h
   ·exact hk0 c h
   ·exact .inr (by omega)
 have hlen3 : sl.len = (Jd D).length := by rw [v3.len]; simp
 refine PIf.intro (fun hq => ?_) (fun hq => ?_)
 ·have hne : Jd D ≠ [] := fun e => by
   have := of_decide_eq_true hq
   rw [hlen3, e] at this; simp at this
  obtain ⟨ys, x, hys⟩ : ∃ ys x, Jd D = ys ++ [x] := ⟨_, _, (List.dropLast_concat_getLast hne).symm⟩
  have hl0 : Ac D = x := by unfold Ac; rw [hys, List.getLast?_concat]; rfl
  have hlen4 : sl.len = ys.length + 1 := by rw [hlen3, hys]; simp
  have hyl : ys.length ≤ 8000000000000 := by
   rw [hys] at hrl
   simp at hrl; omega
  rw [hlen4]
  have ewr : IntKind.wrap .i64 (((ys.length + 1 : Nat) : Int) - (1 : Int)) = ((ys.length : Nat) : Int) := by rw [wrap_i64 (by omega) (by omega)]; omega
  rw [ewr, ← hlen4]
  rw [hl0] at hN main
  have hxg : ((Jd D).map fun x => Aa (Ck x))[ys.length]? = some (Aa (Ck x)) := by rw [hys]; simp
  refine v3.idx hxg fun a _ ca => AC.mk ca.str ?_
  have hn1 := hN.next
  have h2' := hN.frm
  have h3' := hN.cnt
  have h4' := hN.below
  have enl : Ck x = CG x.next ++ (CG x.frm ++ (CG x.names.length ++ (x.names.flatMap CG ++ []))) := by simp [Ck, List.append_assoc]
  rw [enl]
  have nl0 := ACc hN
  rw [enl] at nl0
  simp only [List.length_append] at nl0
  refine SN fun h4 rd4 x4 => ⟨_, rfl, ?_⟩
  have cB := Ab x4 hb3
  refine JK (most := 2147483647) rd4 (by simp only [List.length_append]; omega) (by decide) fun h5 rd5 m5 => ⟨_, rfl, ?_⟩
  rw [IX (by omega) (by omega)] at rd5 ⊢
  refine JK (most := 99999999) rd5 (by simp only [List.length_append]; omega) (by decide) fun h6 rd6 m6 => ⟨_, rfl, ?_⟩
  rw [IX (by omega) (by omega)] at rd6 ⊢
  have sz4 := x4.size
  have rdne : h3.size ≠ h2.size := by omega
  have m46 : Mod (· = h3.size) h4 h6 := m5.trans m6
  have cB6 := m46.blk cB (by omega)
  refine Store.mk1 cB6 (by simp) fun h7 hb7 m7 s7 => Store.mk1 hb7 (by simp) fun h8 hb8 m8 s8 => ?_
  have m68 : Mod (· = h2.size) h6 h8 := m7.trans m8
  have rd8 : JX h8 h3.size ⟨CG x.names.length ++ (x.names.flatMap CG ++ []), false⟩ := m68.blk rd6 rdne
  refine JK (most := 65536) rd8 (by simp only [List.length_append]; omega) (by decide) fun h9 rd9 m9 => ⟨_, rfl, ?_⟩
  rw [IX (by omega) (by omega)] at rd9 ⊢
  have cB9 := m9.blk hb8 (fun e => rdne e.symm)
  have mod9 : Mod (fun c => h2.size ≤ c) h3 h9 := (Ext.mod x4).trans (((m46.weak fun c _ hc => by omega).trans (m68.weak fun c _ hc => by omega)).trans (m9.weak fun c _ hc => by omega))
  refine Loop.rule (fun mm xx hh => ∃ (i : Nat) (np : Sl), xx = ((i : Int), ()) ∧ mm = x.names.length - i ∧ i ≤ x.names.length ∧ Mod (fun c => h2.size ≤ c) h3 hh ∧ JX hh h3.size ⟨(x.names.drop i).flatMap CG ++ [], false⟩ ∧ Own EZ BO hh np ((x.names.take i).map fun n : Nat => (n : Int)) ∧ (∀ c, np.blk = some c → h3.size < c) ∧
    hh[h2.size]? = some (.cells #[BC b, .pointer none, BC nt, BC h1.size, .slice none 0 0, .slice np.p np.len np.cap, .int .i64 (x.next : Int), .int .i64 (x.frm : Int), .bool false] De (0, 0))) ?_
   ⟨0, ⟨none, 0, 0⟩, rfl, rfl, Nat.zero_le _, mod9, rd9, Own.nil, fun c hc => by simp [Sl.blk] at hc, by simpa using cB9⟩
  rintro K6 mm _ hh ⟨i, np, rfl, rfl, hi, mdi, rdi, oi, hnp, ci⟩ hK6
  have szi := mdi.size
  dsimp only
  refine PIf.intro (fun hq => ?_) (fun hq => ?_)
  ·have hil : i < x.names.length := by have := of_decide_eq_true hq; omega
   have hget : x.names[i]? = some x.names[i] := List.getElem?_eq_getElem hil
   have hdr : x.names.drop i = x.names[i] :: x.names.drop (i + 1) := List.drop_eq_getElem_cons hil
   have hbi := h4' _ (List.getElem_mem hil)
   refine AQ.mk (s := np) (AB ci rfl) ?_
   rw [hdr, List.flatMap_cons, List.append_assoc] at rdi
   have lres : ((x.names.drop (i + 1)).flatMap CG).length ≤ 600000 := by
    have := QF (l := x.names.drop (i + 1)) fun n hn => by have := h4' n (List.mem_of_mem_drop hn); omega
    have e := List.length_drop (l := x.names) (i := i + 1)
    omega
   have l10 := Ai (n := x.names[i]) (by omega)
   refine JK (most := 2147483647) rdi (by simp only [List.length_append, List.length_nil]; omega) (by decide) fun h34 rd34 m34 => ⟨_, rfl, ?_⟩
   rw [IX (by omega) (by omega)] at rd34 ⊢
   have c34 := m34.blk ci (fun e => rdne e.symm)
   refine ⟨AB c34 rfl, New.mk fun h35 _ hb35 x35 s35 => ⟨AB (Ab x35 c34) rfl, ?_⟩⟩
   have o34 : Own EZ BO h34 np ((x.names.take i).map fun n : Nat => (n : Int)) := oi.mod m34 fun c hc e => by have := hnp c hc; omega
   have o35 := o34.ext x35
   have src : View EZ h35 ⟨some ⟨h34.size, 0, none⟩, 1, 1⟩ [(x.names[i] : Int)] := (Own.lit (E := EZ) (l := [(x.names[i] : Int)]) hb35 rfl (by simp [maxLen])).view
   refine GZ (s := np) (src := ⟨some ⟨h34.size, 0, none⟩, 1, 1⟩) Wz o35 src (by simp; omega) (by simp [maxLen]; omega) fun s' h36 o36 m36 b36 _ => ?_
   have c36 := m36.blk (Ab x35 c34) (fun e => by have := hnp _ e; omega)
   refine Store.mk1 c36 (by simp) fun h37 hb37 m37 s37 => ?_
   rw [AR (by omega)]
   have sz34 := m34.size
   have sb36 : ∀ c, s'.blk = some c → h3.size < c := fun c hc => by
    rcases b36 c hc with h | h
    ·exact hnp c h
    ·omega
   have rdlt : h3.size < h4.size := Am rd4
   refine hK6 (x.names.length - (i + 1)) _ _ (by omega) ⟨i + 1, s', rfl, rfl, hil, ?_, ?_, ?_, sb36, by simpa using hb37⟩
   ·exact mdi.trans ((((m34.weak fun c _ hc => by omega).trans (Ext.mod x35)).trans (m36.weak fun c _ hc => by have := hnp c hc; omega)).trans (m37.weak fun c _ hc => by omega))
   ·have r35 := x35.blk rd34 (fun h => h)
    have r36 := m36.blk r35 (fun e => by have := hnp _ e; omega)
    exact m37.blk r36 rdne
   ·rw [List.take_add_one, hget]
    simp only [Option.toList_some, List.map_append, List.map_cons, List.map_nil]
    exact o36.mod m37 fun c hc e => by have := sb36 c hc; omega
  ·have hil : i = x.names.length := by have := of_decide_eq_false hq; omega
   subst hil
   rw [List.take_length] at oi
   rw [List.drop_length] at rdi
   refine Vm rdi ⟨_, rfl, ?_⟩
   have eend : AJP ⟨([] : List Nat).flatMap CG ++ [], false⟩ = true := rfl
   rw [eend]
   refine PIf.no rfl ?_
   have keepB : ∀ {bb : Nat} {o : Obj}, h3[bb]? = some o → bb < h2.size → hh[bb]? = some o := fun e hlt => mdi.blk e (by omega)
   refine main hh np ⟨by omega, fun c hc hn => ?_⟩ ci oi (fun c hc => by have := hnp c hc; omega) (keepB L3 (by omega)) (T3.mod mdi fun c hc e => ?_)
   ·have h0 := x03.get c hc hn
    rw [← h0]
    exact mdi.get c (by omega) (by omega)
   ·rcases hc with rfl | ⟨y, hy, _⟩
    ·omega
    ·cases hy
 ·have h0 : Jd D = [] := by
   have := of_decide_eq_false hq
   exact List.eq_nil_of_length_eq_zero (by omega)
  have hl0 : Ac D = ⟨1, 1, []⟩ := by unfold Ac; rw [h0]; rfl
  refine main h3 ⟨none, 0, 0⟩ x03 (by rw [hl0]; exact hb3) (by rw [hl0]; exact Own.nil) (fun c hc => by simp [Sl.blk] at hc) L3 T3
end
end Go.Lf.G

/-
 Contracts: the document's map (chapter 9).
-/
set_option maxRecDepth 100000
set_option linter.unusedVariables false
set_option linter.unusedSimpArgs false
namespace Go.Lf.G
open Go
open M (Sorted Ah Df BL Al BF CZ Au OkL Bo atK Br)
theorem AGe {A : Amb} {h : Heap} {s : Sl} {l : List Pr} {R : Value → Heap → Prop} (v : View Af h s l) (H : ∀ h', Ext h h' → R (.int .i64 (Bu l)) h') : AA A P Em #[.slice s.p s.len s.cap] h R := by
 refine PZ ?_
 unfold Gz
 rw [v.len]
 refine PIf.intro (fun hq => ?_) (fun hq => ?_)
 ·have h0 : l.length = 0 := by have : ((l.length : Nat) : Int) = 0 := (by simpa using hq); omega
  have := H h Mod.refl
  unfold Bu at this
  rwa [if_pos h0] at this
 have h0 : l.length ≠ 0 := fun e => by rw [e] at hq; cases hq
 refine PIf.intro (fun hq => ?_) (fun hq => ?_)
 ·have h1 : l.length > 64 := by have := of_decide_eq_true hq; omega
  have := H h Mod.refl
  unfold Bu at this
  rwa [if_neg h0, if_pos h1] at this
 have h1 : ¬ l.length > 64 := by have := of_decide_eq_false hq; omega
 have hck : Bu l = EE l := by unfold Bu; rw [if_neg h0, if_neg h1]
 rw [hck] at H
 refine Loop.rule (fun mm x hh => ∃ i : Nat, x = ((i : Int), ()) ∧ mm = l.length - i ∧ i ≤ l.length ∧ Ext h hh ∧ EE (l.take i) = 0) ?_ ⟨0, rfl, rfl, by omega, Mod.refl, rfl⟩
 rintro K mm _ hh ⟨i, rfl, rfl, hi, xx, hw⟩ hK
 dsimp only
 refine PIf.intro (fun hq => ?_) (fun hq => ?_)
 ·have hil : i < l.length := by have := of_decide_eq_true hq; omega
  have hget : l[i]? = some l[i] := List.getElem?_eq_getElem hil
  rw [← v.len]
  refine (v.ext xx).idx hget fun a _ c => ?_
  obtain ⟨c0, c1, c2⟩ := c.pair
  refine AC.mk c0 (AC.mk c1 (AY.mk c2 ?_))
  refine M.AIi (x := l[i]) fun h2 x2 _ => ⟨_, rfl, ?_⟩
  have hsp := Rt hget hw
  refine PIf.intro (fun q => ?_) (fun q => ?_)
  ·have hne : Au l[i] ≠ 0 := by simpa using q
   have := H h2 (xx.trans x2)
   rw [hsp, if_pos hne] at this
   exact this
  ·have he : Au l[i] = 0 := by simpa using q
   rw [AR (by omega)]
   refine hK (l.length - (i + 1)) _ _ (by omega) ⟨i + 1, rfl, rfl, hil, xx.trans x2, ?_⟩
   rw [List.take_add_one, hget]
   exact O9 hw he
 ·have hil : i = l.length := by have := of_decide_eq_false hq; omega
  subst hil
  rw [List.take_length] at hw
  have := H hh xx
  rwa [hw] at this
theorem AIy {A : Amb} {h : Heap} {s : Sl} {l : List Pr} {key : ByteArray} {R : Value → Heap → Prop} (v : View Af h s l) (hl : l.length ≤ 1099511627776) (H : ∀ h', Ext h h' → R (.tuple #[.int .i64 (atK key l : Int), .bool (Br key l)]) h') : AA A P Dh #[.agg #[.slice s.p s.len s.cap], .string key] h R := by
 refine OV ?_
 unfold GM
 refine New.mk fun h1 _ hb1 x1 s1 => ?_
 have v1 := v.ext x1
 refine Loop.rule (fun mm x hh => ∃ i : Nat, x = ((i : Int), ()) ∧ mm = l.length - i ∧ i ≤ atK key l ∧ hh = h1) ?_ ⟨0, rfl, rfl, Nat.zero_le _, rfl⟩
 rintro K mm _ hh ⟨i, rfl, rfl, hi, eh⟩ hK
 obtain rfl : h1 = hh := eh.symm
 have hle := M.Qx key l
 obtain ⟨t1, t2, t3⟩ := M.Kb (p := fun q => sLt q.key key) (l := l) (i := i) (show i ≤ (l.takeWhile fun q => sLt q.key key).length from hi)
 refine Join.mk fun K1 hK1 => ?_
 have fin : (i = atK key l) → K1 (false, ()) h1 := fun e => hK1 _ _ (PIf.no rfl (by
  refine AQ.mk (s := s) (AJ hb1 rfl) ?_
  rw [v1.len]
  have := H h1 x1
  refine PIf.intro (fun q => ?_) (fun q => ?_)
  ·have hil : i < l.length := by have := of_decide_eq_true q; omega
   have hget : l[i]? = some l[i] := List.getElem?_eq_getElem hil
   refine AQ.mk (s := s) (AJ hb1 rfl) (v1.idx hget fun a _ c => ?_)
   obtain ⟨c0, _, _⟩ := c.pair
   refine AC.mk c0 ?_
   unfold M.Br at this
   rw [← e, hget] at this
   rw [BR]
   exact this
  ·have hil : ¬ i < l.length := by have := of_decide_eq_false q; omega
   have hnone : l[i]? = none := by simp; omega
   unfold M.Br at this
   rw [← e, hnone] at this
   exact this))
 refine AQ.mk (s := s) (AJ hb1 rfl) ?_
 rw [v1.len]
 refine PIf.intro (fun q => ?_) (fun q => ?_)
 ·have hil : i < l.length := by have := of_decide_eq_true q; omega
  have hget : l[i]? = some l[i] := List.getElem?_eq_getElem hil
  refine AQ.mk (s := s) (AJ hb1 rfl) (v1.idx hget fun a _ c => ?_)
  obtain ⟨c0, _, _⟩ := c.pair
  refine AC.mk c0 ?_
  cases hb : sLt l[i].key key with
  | true =>
   refine hK1 _ _ (PIf.yes rfl ?_)
   rw [AR (by omega)]
   have := t1 _ hget hb
   exact hK (l.length - (i + 1)) _ _ (by omega) ⟨i + 1, rfl, rfl, this, rfl⟩
  | false => exact fin (t2 _ hget hb)
 ·have hil : ¬ i < l.length := by have := of_decide_eq_false q; omega
  exact fin (t3 (by simp; omega))
theorem AJF (m : List Pr) (p : Pr) : (wr1 m p).length ≤ m.length + 1 := by
 unfold wr1
 have := M.Qx p.key m
 simp only [List.length_append, List.length_take, List.length_drop]
 split <;> split <;> simp <;> omega
theorem Vy : ∀ (b m : List Pr), (wrL m b).length ≤ m.length + b.length
 | [], m => by simp [wrL]
 | p :: b, m => by
  have h1 := AJF m p
  have h2 := Vy b (wr1 m p)
  show (wrL (wr1 m p) b).length ≤ _
  simp only [List.length_cons]; omega
theorem AH9 {m b : List Pr} {i : Nat} {x : Pr} (h : b[i]? = some x) : wrL m (b.take (i + 1)) = wr1 (wrL m (b.take i)) x := by
 rw [List.take_add_one, h]
 show wrL m (b.take i ++ [x]) = _
 unfold wrL
 rw [List.foldl_append]; rfl
theorem AG6 {A : Amb} {h : Heap} {s sb : Sl} {m b : List Pr} {R : Value → Heap → Prop} (v : View Af h s m) (vb : View Af h sb b) (hm : m.length + b.length ≤ 1000000)
  (H : ∀ s' h', View Af h' s' (wrL m b) → (∀ c, s'.blk = some c → s.blk = some c ∨ (h.size ≤ c ∧ c < h'.size)) → Ext h h' → R (.agg #[.slice s'.p s'.len s'.cap]) h') : AA A P Dm #[.agg #[.slice s.p s.len s.cap], .slice sb.p sb.len sb.cap] h R := by
 refine L9 ?_
 unfold Eo
 refine New.mk fun h1 _ hb1 x1 s1 => New.mk fun h2 _ hb2 x2 s2 => ?_
 have x02 := x1.trans x2
 refine Loop.rule (fun mm x hh => ∃ (i : Nat) (si : Sl), x = ((i : Int), ()) ∧ mm = b.length - i ∧ i ≤ b.length ∧ Mod (fun c => h.size ≤ c) h2 hh ∧ hh[h.size]? = some (.cells #[.slice si.p si.len si.cap] Cb (0, 0)) ∧ hh[h1.size]? = some (.cells #[.slice none 0 0] Cb (0, 0)) ∧ View Af hh si (wrL m (b.take i)) ∧ ((si = s ∧ wrL m (b.take i) = m) ∨ ∀ c, si.blk = some c → h1.size < c ∧ c < hh.size)) ?_
  ⟨0, s, rfl, rfl, Nat.zero_le _, Mod.refl, Ab x2 hb1, hb2, v.ext x02, .inl ⟨rfl, rfl⟩⟩
 rintro K mm _ hh ⟨i, si, rfl, rfl, hi, mdi, ci, c2, vi, bi⟩ hK
 have szi := mdi.size
 have xi : Ext h hh := x02.then (mdi.weak fun c _ hc => .inr hc)
 have vbi := vb.ext xi
 dsimp only
 rw [vb.len]
 refine PIf.intro (fun hq => ?_) (fun hq => ?_)
 ·have hil : i < b.length := by have := of_decide_eq_true hq; omega
  have hget : b[i]? = some b[i] := List.getElem?_eq_getElem hil
  have hml := Vy (b.take i) m
  rw [List.length_take] at hml
  have htk := AH9 (m := m) hget
  rw [← vb.len]
  refine AQ.mk (s := si) (AJ ci rfl) (vbi.idx hget fun a _ ca => ?_)
  obtain ⟨k0, k1, k2⟩ := ca.pair
  refine AC.mk k0 ?_
  generalize b[i] = p at *
  generalize wrL m (b.take i) = w at *
  refine AIy vi (by omega) fun h4 x4 => ⟨_, _, rfl, ?_⟩
  have hle := M.Qx p.key w
  have c4 := Ab x4 ci
  have v4 := vi.ext x4
  refine AQ.mk (s := si) (AJ c4 rfl) ⟨⟨by omega, by have := v4.cap; have := v4.len; omega⟩, ?_⟩
  have hcat : (((atK p.key w : Nat) : Int)).toNat = atK p.key w := by omega
  rw [hcat]
  refine GZ (E := Af) (s := ⟨none, 0, 0⟩) (l := []) (src := ⟨Ao si.p si.cap 0 3, atK p.key w - 0, si.cap - 0⟩) G7 Own.nil (v4.sub (lo := 0) (hi := atK p.key w) (by omega) hle) (by simp; omega) (by simp [maxLen]; omega) fun s5 h5 o5 m5 b5 _ => ?_
  rw [List.drop_zero, List.nil_append] at o5
  have x5 : Ext h4 h5 := m5.weak (by simp [Sl.blk])
  have x45 := x4.trans x5
  have b5' : ∀ c, s5.blk = some c → hh.size ≤ c := fun c hc => by
   rcases b5 c hc with h | h
   ·simp [Sl.blk] at h
   ·have := x4.size; omega
  refine Join.mk fun K1 hK1 => ?_
  have rest : ∀ (s6 : Sl) (h6 : Heap), Own Af AO h6 s6 (w.take (atK p.key w) ++ if p.gone then [] else [p]) → (∀ c, s6.blk = some c → hh.size ≤ c) → Mod (fun c => hh.size ≤ c) hh h6 → K1 (s6, ()) h6 := fun s6 h6 o6 b6 m6 => hK1 _ _ (by
   refine Join.mk fun K2 hK2 => ?_
   have sz6 := m6.size
   have hb1lt : h.size < hh.size := Am ci
   have c6 := m6.blk ci (by omega)
   have v6 : View Af h6 si w := View.modn vi m6 fun c hc hlt hge => by omega
   have go : ∀ j : Nat, j = (if Br p.key w then atK p.key w + 1 else atK p.key w) → j ≤ w.length → K2 ((j : Int), ()) h6 := fun j ej hj => hK2 _ _ (by
    refine AQ.mk (s := si) (AJ c6 rfl) ⟨⟨by omega, by have := v6.len; omega⟩, ?_⟩
    have hcat2 : (((j : Nat) : Int)).toNat = j := by omega
    rw [hcat2]
    have hlen := v6.len
    have vs := v6.sub (lo := j) (hi := w.length) hj (Nat.le_refl _)
    rw [← hlen] at vs
    have ltk : (w.take (atK p.key w) ++ if p.gone then [] else [p]).length ≤ atK p.key w + 1 := by
     simp only [List.length_append, List.length_take]; split <;> simp <;> omega
    refine GZ (E := Af) (s := s6) (src := ⟨Ao si.p si.cap j 3, si.len - j, si.cap - j⟩) G7 o6 vs (by rw [hlen]; simp only [List.length_drop, List.length_take]; omega) (by rw [hlen]; simp only [List.length_drop, List.length_take, maxLen]; omega) fun s7 h7 o7 m7 b7 _ => ?_
    have b7' : ∀ c, s7.blk = some c → hh.size ≤ c := fun c hc => by
     rcases b7 c hc with h | h
     ·exact b6 c h
     ·omega
    have m67 : Mod (fun c => hh.size ≤ c) hh h7 := m6.trans (m7.weak fun c _ hc => b6 c hc)
    have c7 := m67.blk ci (by omega)
    refine Store.mk (hb := c7) (j := 0) (by simp) fun h8 hb8 m8 s8 => ?_
    rw [AR (by omega)]
    have hb2lt : h1.size < hh.size := Am c2
    refine hK (b.length - (i + 1)) _ _ (by omega) ⟨i + 1, s7, rfl, rfl, hil, (mdi.trans (m67.weak fun c _ hc => by omega)).trans (m8.weak fun c _ hc => by omega), by simpa using hb8, m8.blk (m67.blk c2 (by omega)) (by omega), ?_, .inr fun c hc => by have := b7' c hc; have := o7.lt hc; omega⟩
    rw [htk]
    have := (o7.mod m8 fun c hc e => by have := b7' c hc; omega).view
    rw [hlen, List.take_length, ej] at this
    unfold wr1
    exact this)
   refine PIf.intro (fun q => ?_) (fun q => ?_)
   ·rw [AR (by omega)]
    have hlt := M.AH1 q
    exact go _ (by rw [if_pos q]) hlt
   ·exact go _ (by rw [if_neg (by rw [q]; decide)]) hle)
  have vb5 := vbi.ext x45
  refine vb5.idx hget fun a1 _ ca1 => ?_
  obtain ⟨j0, j1, j2⟩ := ca1.pair
  refine AY.mk j2 ?_
  refine PIf.intro (fun q => ?_) (fun q => ?_)
  ·have hg : p.gone = false := by simpa using q
   refine vb5.idx hget fun a2 _ ca2 => ?_
   obtain ⟨i0, i1, i2⟩ := ca2.pair
   refine AC.mk i0 (AC.mk i1 (AY.mk i2 ?_))
   refine New.append1 (E := Af) (x := p) (s := s5) (l := w.take (atK p.key w)) rfl G7 o5 (by simp; omega) (by simp [maxLen]; omega) fun s6 h6 o6 m6 b6 _ => ?_
   refine rest s6 h6 (by rw [hg]; exact o6) (fun c hc => ?_) ((Ext.mod x45).trans (m6.weak fun c _ hc => b5' c hc))
   rcases b6 c hc with h | h
   ·exact b5' c h
   ·have := x45.size; omega
  ·have hg : p.gone = true := by simpa using q
   exact rest s5 h5 (by rw [hg]; simpa using o5) b5' (Ext.mod x45)
 ·have hil : i = b.length := by have := of_decide_eq_false hq; omega
  subst hil
  rw [List.take_length] at vi bi
  refine AQ.mk (s := si) (AJ ci rfl) (Store.mk (hb := c2) (j := 0) (by simp) fun h8 hb8 m8 s8 => ?_)
  have hb8 : h8[h1.size]? = some (.cells #[.slice si.p si.len si.cap] Cb (0, 0)) := by simpa using hb8
  refine AQ.mk (s := si) (AJ hb8 rfl) ?_
  have x8 : Ext h h8 := xi.then (m8.weak fun c _ hc => .inr (by omega))
  rcases bi with ⟨e1, e2⟩ | bi
  ·rw [e2] at H
   subst e1
   exact H si h8 (v.ext x8) (fun c hc => .inl hc) x8
  ·exact H si h8 (View.modn vi m8 fun c hc hlt e => by have := bi c hc; omega) (fun c hc => .inr (by have := bi c hc; have := m8.size; omega)) x8
end Go.Lf.G

/-
 Contracts: the document's map is read; a store held against it; a store that is awake (chapter 9).
-/
set_option maxRecDepth 100000
set_option linter.unusedVariables false
set_option linter.unusedSimpArgs false
namespace Go.Lf.G
open Go
open M (Sorted Ah Df BL Al BF CZ Au OkL Bo atK Br)
theorem AFN (key : ByteArray) : ∀ {l : List Pr}, Sorted l → (Br key l = true → ∃ p, l[atK key l]? = some p ∧ Ah key l = some p) ∧ (Br key l = false → Ah key l = none)
 | [], _ => ⟨(fun h => by cases h), fun _ => rfl⟩
 | x :: l, s => by
  have s' := List.pairwise_cons.1 s
  have ih := AFN key s'.2
  rw [Wm, Oe, M.Av]
  by_cases h : sLt x.key key = true
  ·rw [if_pos h, if_pos h, if_neg (M.Js h)]
   exact ⟨fun ht => by obtain ⟨p, h1, h2⟩ := ih.1 ht; exact ⟨p, by simpa using h1, h2⟩, ih.2⟩
  ·rw [if_neg h, if_neg h]
   by_cases hk : x.key = key
   ·rw [if_pos hk]
    exact ⟨fun _ => ⟨x, rfl, rfl⟩, fun hf => by simp [hk] at hf⟩
   ·rw [if_neg hk]
    refine ⟨fun ht => by simp [hk] at ht, fun _ => M.FM fun y hy e => h ?_⟩
    have := s'.1 y hy
    rwa [e] at this
theorem ABe {A : Amb} {h : Heap} {s : Sl} {m : List Pr} {key : ByteArray} {R : Value → Heap → Prop} (v : View Af h s m) (hs : Sorted m) (hl : m.length ≤ 1099511627776) (H : ∀ h', Ext h h' → R (.tuple #[.string (Fj m key).1, .bool (Fj m key).2]) h') : AA A P Cf #[.agg #[.slice s.p s.len s.cap], .string key] h R := by
 refine NA ?_
 unfold Fh
 refine New.mk fun h1 _ hb1 x1 s1 => AQ.mk (s := s) (AJ hb1 rfl) ?_
 refine AIy (v.ext x1) hl fun h2 x2 => ⟨_, _, rfl, ?_⟩
 have x02 := x1.trans x2
 have := H h2 x02
 unfold Fj at this
 obtain ⟨f1, f2⟩ := AFN key hs
 cases ht : Br key m with
 | false =>
  rw [f2 ht] at this
  exact PIf.yes rfl this
 | true =>
  obtain ⟨p, hp, hf⟩ := f1 ht
  rw [hf] at this
  refine PIf.no rfl (AQ.mk (s := s) (AJ (Ab x2 hb1) rfl) ?_)
  refine (v.ext x02).idx hp fun a _ c => ?_
  obtain ⟨c0, c1, c2⟩ := c.pair
  have en : ((atK key m : Nat) : Int).toNat = atK key m := by omega
  refine AC.mk ?_ this
  rw [en]; exact c1
theorem AJU (k : ByteArray) : ABC ⟨#[]⟩ ⟨#[]⟩ k = true := by
 have h : sLt k (⟨#[]⟩ : ByteArray) = false := by
  unfold sLt
  rw [ByteArray.toList_eq, ByteArray.toList_eq]
  cases k.data.toList <;> rfl
 unfold ABC
 rw [h]; rfl
theorem AHE {m : List Pr} {most : Nat} (h : m.length ≤ most) : YL m ⟨#[]⟩ ⟨#[]⟩ (most : Int) = m := by
 unfold YL L8
 rw [List.filter_eq_self.2 fun x _ => AJU x.key, List.take_of_length_le (by omega)]
section
variable {A : Amb} {B : Bud} {g h : Heap} {q : Hp} {k : Nat → Nat} {st : Db} {m : Bx} {D : BK} {age c : Nat} {R : Value → Heap → Prop}
theorem BA.frlen (S : BA B g h q k st m D age c) : st.fr.length ≤ 1000000 ∧ st.ts.length ≤ 100000 ∧ (Al (st.fr :: tabsS st)).length ≤ 1099511627776 ∧ (BH st).length ≤ 100000 := by
 have h1 := S.disk.frlen S.lim
 have h2 := S.disk.alllen S.lim
 have h3 := S.hc
 have h4 := B.hC
 have h5 := S.disk.ntok.cnt
 rw [S.disk.nmle] at h5
 have h6 : (BH st).length ≤ (Al (st.fr :: tabsS st)).length := TY _
 omega
theorem BA.sorted (S : BA B g h q k st m D age c) : Sorted (BH st) := DY _ _
end
end Go.Lf.G

/-
 A store that is awake (chapter 9).
-/
set_option maxRecDepth 100000
set_option linter.unusedVariables false
set_option linter.unusedSimpArgs false
namespace Go.Lf.G
open Go
open M (Sorted Ah Df BL Al BF CZ Au OkL Bo atK Br)
def D0 : BK := ⟨fun _ => [], fun _ => [], fun _ => [], 1, 1⟩
theorem ALW : Ac D0 = ⟨1, 1, []⟩ := rfl
theorem ALd {F : Fls} (hl : ∀ n, F (fnB nl n) = none) (hn : ∀ n, F (fnB nn n) = none) (ht : ∀ x, F x ≠ none → (bl x).head? ≠ some 116) : Ap F D0 ∧ ACa F D0 0 0 ∧ mapD D0 = [] := by
 refine ⟨⟨⟨fun n p _ _ h => ?_, fun _ _ _ _ => rfl, fun n _ _ => hl n, fun _ _ => rfl⟩, ⟨fun n p _ _ h => ?_, fun _ _ _ _ => rfl, fun n _ _ => hn n, fun _ _ => rfl⟩, fun n hn => ?_, fun n b hb => ?_, fun n x hx => ?_, fun x hx hd => absurd hd (ht x hx), by decide⟩, ⟨by decide, by decide, by decide, by decide, by decide, by decide, fun n hn => ?_⟩, rfl⟩
 ·rw [hl n] at h; cases h
 ·rw [hn n] at h; cases h
 ·rw [ALW] at hn; cases hn
 ·cases hb
 ·cases hx
 ·exact absurd (Xo n) (ht _ hn)
section
variable {A : Amb} {B : Bud} {g h : Heap} {q : Hp} {k : Nat → Nat} {st : Db} {m : Bx} {D : BK} {age c : Nat} {R : Value → Heap → Prop}
theorem BA.on {h' : Heap} (S : BA B g h q k st m D age c) (x : Ext h h') : BA B g h' q k st m D age c := ⟨S.mem.on x, S.up, S.disk, S.lim, S.wt, S.hc⟩
theorem BA.beside {h' : Heap} {X : Nat → Prop} (S : BA B g h q k st m D age c) (x : Mod X h h') (hX : ∀ c, X c → k c = 0 ∧ g.size ≤ c) : BA B g h' q k st m D age c := ⟨S.mem.beside x hX, S.up, S.disk, S.lim, S.wt, S.hc⟩
theorem BA.more {c' : Nat} (S : BA B g h q k st m D age c) (h1 : c ≤ c') (h2 : c' ≤ B.C) : BA B g h q k st m D age c' := ⟨S.mem, S.up, S.disk, S.lim.mono (Nat.le_refl _) h1, S.wt, h2⟩
theorem BA.free (S : BA B g h q k st m D age c) {x : Nat} (hx : h.size ≤ x) : k x = 0 := Decidable.byContradiction fun hk => by
 have := (S.mem.own x hk).2; omega
theorem BA.base (S : BA B g h q k st m D age c) {x : Nat} (hx : x < g.size) : k x = 0 := Decidable.byContradiction fun hk => by
 have := (S.mem.own x hk).1; omega
theorem AIx {b : Nat} {Sb : Nat → Prop} (E : Evn g) (Bx0 : BV h b Sb m) (hx : Ext g h) (hSb : ∀ c, Sb c → g.size ≤ c) (hd : m.down = false) (hfu : m.fuel = -1) (hl : ∀ n, ff m (fnB nl n) = none) (hn : ∀ n, ff m (fnB nn n) = none) (ht : ∀ x, ff m x ≠ none → (bl x).head? ≠ some 116) (hA : 1 ≤ B.A) (hw : wtF m.files ≤ B.W0)
  (H1 : ∀ h' q' k' st' m' D', q'.b = b → BA B g h' q' k' st' m' D' 1 0 → m'.fuel = -1 → BH st' = [] → (∀ y, ¬ Mine y → ff m' y = ff m y) → Mod Sb h h' → (∀ c, k' c ≠ 0 → Sb c ∨ h.size ≤ c) → R (.tuple #[BC q'.d, .int .i64 0]) h') : AA A P I8 #[BC b] h R := by
 obtain ⟨d1, d2, d3⟩ := ALd hl hn ht
 refine ADg (B := B) E Bx0 hx hSb hd d1 d2 (Nat.zero_le _) hA (by omega) (fun hf => absurd hfu hf) fun h' q' k' st' m' D' e S sty mp oth md kk => ?_
 exact H1 h' q' k' st' m' D' e S (sty.calm hfu) (mp.trans d3) oth md kk
theorem AGf {b : Nat} {Sb : Nat → Prop} {mp : List Pr} (E : Evn g) (Bx0 : BV h b Sb m) (hx : Ext g h) (hSb : ∀ c, Sb c → g.size ≤ c) (hd : m.down = false) (hr : Rec (ff m) age c mp) (hc : c ≤ B.C) (hA : age + 1 ≤ B.A) (hw : wtF m.files ≤ B.W0 + age * B.K)
  (H0 : m.fuel ≠ -1 → ∀ h' d S' m', BV h' b S' m' → m'.down = true → Mod Sb h h' → (∀ c, S' c → Sb c ∨ h.size ≤ c) → Xl (ff m') (age + 1) c mp → (∀ y, ¬ Mine y → ff m' y = ff m y) → wtF m'.files ≤ B.W0 + (age + 1) * B.K → R (.tuple #[BC d, .int .i64 30]) h')
  (H1 : ∀ h' q' k' st' m' D', q'.b = b → BA B g h' q' k' st' m' D' (age + 1) c → GQ m m' → BH st' = mp → (∀ y, ¬ Mine y → ff m' y = ff m y) → Mod Sb h h' → (∀ c, k' c ≠ 0 → Sb c ∨ h.size ≤ c) → R (.tuple #[BC q'.d, .int .i64 0]) h') : AA A P I8 #[BC b] h R := by
 obtain ⟨D, d1, d2, rfl⟩ := hr
 exact ADg (B := B) E Bx0 hx hSb hd d1 d2 hc hA hw H0 H1
end
abbrev ka : ByteArray := ⟨#[97]⟩
abbrev kb : ByteArray := ⟨#[98]⟩
abbrev v1 : ByteArray := ⟨#[49]⟩
abbrev v2 : ByteArray := ⟨#[50]⟩
def AKr : Bud := ⟨1000, 0, 100, by decide, by decide, by decide⟩
def pA1 : Pr := ⟨ka, v1, false⟩
end Go.Lf.G

/-
 What the rows list: the table that the numerals are read from, two errors; a world that holds what is listed; arguments opened.
-/
set_option maxRecDepth 100000
set_option linter.unusedVariables false
set_option linter.unusedSimpArgs false
namespace Go.Lf.G
open Go Go.ChangeShapes Go.WideShapes Go.ChangeAt Go.RowKit Go.Proofs.YtdmlhpjdmgaggaaGreatDoor
def listed : List (String × DataW Unit) := Rows.casWinnerRow.laid
theorem AGo : ∃ (x y a b : String × DataW Unit), listed = [x, y, (Vt, Lib.tabData .u64 Lib.pow10Tab), a, b] := ⟨_, _, _, _, rfl⟩
theorem ALK : P.globalNamed Vt = some 2 := by kernel_rfl
theorem ALF : (P.globals[2]?).map (·.type) = some Pm := by kernel_rfl
theorem ALn : P.underlying Pm = some (.array 20 WH) := by kernel_rfl
theorem AKS : P.underlying WH = some (.int .u64) := by kernel_rfl
theorem ALl : P.cellsOf WH = 1 := by kernel_rfl
theorem ALX : P.cellsOf Pm = 20 := by kernel_rfl
theorem AEH : listed.filter (fun x => x.2.handleName?.isSome) = [] := by kernel_rfl
theorem AEk {W : World} (h : laidMetH P listed W) : laidMet P listed W := by
 unfold laidMetH at h
 rw [AEH] at h
 exact h
theorem AJk {W : World} (h : laidMetH P listed W) : Lib.TabIs P W Vt .u64 Lib.pow10Tab := by
 have h1 := AEk h
 obtain ⟨x, y, a, b, e⟩ := AGo
 rw [e] at h1
 exact Lib.tabIs_of_head (rest := [a, b]) ALK ALF ALn AKS ALl ALX (laidMet.tail (laidMet.tail h1))
theorem AJJ {W : World} (h : laidMetH P listed W) : Tab W.heap := fun A n => by
 have h1 := AJk h
 unfold Lib.TabIs World.var? at h1 ⊢
 exact h1
def ABD : String := String.ofList [Char.ofNat 42] ++ "errors.errorString"
def AFX : String := Rows.casWinnerRow.named.getD 1 (String.ofList [])
def AFj : String := Rows.casWinnerRow.named.getD 0 (String.ofList [])
theorem AKq : ∃ (x y z w : String × DataW Unit) (text : List UInt8), listed = [x, y, z, (AFX, .iface ABD (.ptr (.agg [.lit (.string text)]))), w] := ⟨_, _, _, _, _, rfl⟩
theorem AK2 : ∃ (x y z w : String × DataW Unit) (text : List UInt8), listed = [x, y, z, w, (AFj, .iface ABD (.ptr (.agg [.lit (.string text)])))] := ⟨_, _, _, _, _, rfl⟩
theorem ALk : P.globalNamed AFX = some 1 := by kernel_rfl
theorem ALp : P.globalNamed AFj = some 0 := by kernel_rfl
theorem AKs : (P.globals[1]?).map (·.type) = some V3 := by kernel_rfl
theorem AK9 : (P.globals[0]?).map (·.type) = some V3 := by kernel_rfl
theorem ALI : ∃ ms, P.underlying V3 = some (.interface ms) := ⟨_, Proofs.Tryz.underlying183⟩
theorem AK5 (u : TypeId) (h : P.typeName? 3 u = some ABD) : u = Cy :=
 typeName_ptr_named (nm := "errors.errorString") (by kernel_rfl) (by kernel_rfl) (by decide) u h
theorem ALO : P.underlying Cy = some (.pointer Dg) := by kernel_rfl
theorem ALt : ∃ f : Field, P.underlying Dg = some (.struct #[f]) ∧ f.type = Ad ∧ f.offset = 0 := ⟨_, Proofs.Tryz.underlying280, rfl, rfl⟩
theorem ALr : P.cellsOf Dg = 1 := by kernel_rfl
theorem AIf {n : String} {text : List UInt8} {r : List (String × DataW Unit)} {W : World} {g : Nat} (h : laidMet P ((n, .iface ABD (.ptr (.agg [.lit (.string text)]))) :: r) W) (hg : P.globalNamed n = some g) (ht : (P.globals[g]?).map (·.type) = some V3) : AAJ W.heap g := by
 obtain ⟨ms, hi⟩ := ALI
 obtain ⟨f, hf, hft, hfo⟩ := ALt
 obtain ⟨a0, s0, hv0, _, _, _⟩ := laid_sentinel h hg ht hi AK5 ALO hf hft hfo Oi ALr AGU
 have h0 : W.cell? ⟨g, 0, none⟩ = some (.iface Cy (.pointer (some a0))) := by simpa using World.var?_cell hg hv0 0
 refine ⟨.iface Cy (.pointer (some a0)), ?_, .inr ⟨_, _, rfl⟩⟩
 unfold hget
 unfold World.cell? at h0
 exact h0
theorem ABG {W : World} (h : laidMetH P listed W) : Evn W.heap := by
 refine ⟨AJJ h, ?_, ?_⟩
 ·have h1 := AEk h
  obtain ⟨x, y, z, w, t, e⟩ := AK2
  rw [e] at h1
  exact AIf (laidMet.tail (laidMet.tail (laidMet.tail (laidMet.tail h1)))) ALp AK9
 ·have h1 := AEk h
  obtain ⟨x, y, z, w, t, e⟩ := AKq
  rw [e] at h1
  exact AIf (laidMet.tail (laidMet.tail (laidMet.tail h1))) ALk AKs
def ADZ : DataW Unit → Array Value
 | .agg ds => (ds.map fun | .lit (.int k z) => Value.int k z | _ => .bool false).toArray
 | _ => #[]
def fill (d : DataW Unit) : Obj → Obj
 | .cells _ t frozen => .cells (ADZ d) t frozen
 | o => o
def point (b : Nat) : Obj → Obj
 | .cells _ t frozen => .cells #[.iface Cy (.pointer (some ⟨b, 0, none⟩))] t frozen
 | o => o
abbrev AI6 : ByteArray := ⟨#[118, 97, 108, 117, 101, 32, 111, 117, 116, 32, 111, 102, 32, 114, 97, 110, 103, 101]⟩
abbrev AJe : ByteArray := ⟨#[105, 110, 118, 97, 108, 105, 100, 32, 115, 121, 110, 116, 97, 120]⟩
noncomputable def low : Nat := (World.holding P default ⟨#[], #[], []⟩).heap.size
noncomputable def Gd (os : Os) : World :=
 let w0 := World.holding P os ⟨#[.cells #[.string AI6] Dg, .cells #[.string AJe] Dg], #[], []⟩
 { w0 with heap := ((((w0.heap.modify 2 (fill Rows.laid_internal_strconv_uint64pow10)).modify 4 (fill Rows.laid_math_bits_deBruijn32tab)).modify 5 (fill Rows.laid_math_bits_deBruijn64tab)).modify 1 (point low)).modify 0 (point (low + 1)) }
theorem LD (os : Os) (args : Array Value) : laidMet P listed ((Gd os).forCall (fun _ _ => 0) ⟨#[], args, []⟩).memory :=
 laidMet_of_run' 8 (by kernel_rfl) (by kernel_rfl)
end Go.Lf.G

