/-
 Contract: a store is opened as it was left (chapter 9).
-/
import Derived.Test.YteecdmkgblonnaaGreatDoorLfZ13ToZ15
set_option linter.unusedVariables false
set_option linter.unusedSimpArgs false
set_option maxRecDepth 100000
set_option linter.unusedVariables false
set_option linter.unusedSimpArgs false
namespace Go.Lf.G
open Go
open M (Sorted findK putL putsL refAllL findLs GoodL wrongP OkL liveL)
/-! ### plain law: the log's batches, one behind the other -/
def allB (D : Disk) : List (Nat × List Pr) := (List.range D.ltop).flatMap fun n => (D.L n).map fun b => (n, b)
def selB (f : Nat) (l : List (Nat × List Pr)) : List (List Pr) := (l.filter fun p => decide (f ≤ p.1)).map (·.2)
theorem selB_app (f : Nat) (a b : List (Nat × List Pr)) : selB f (a ++ b) = selB f a ++ selB f b := by simp [selB]
theorem sel_all (D : Disk) : selB (lastN D).frm (allB D) = batsD D := by
 unfold allB batsD
 have key : ∀ L : List Nat, selB (lastN D).frm (L.flatMap fun n => (D.L n).map fun b => (n, b)) = L.flatMap fun n => if n < (lastN D).frm then [] else D.L n := by
  intro L
  induction L with
  | nil => rfl
  | cons n L ih =>
   rw [List.flatMap_cons, List.flatMap_cons, selB_app, ih]
   congr 1
   unfold selB
   rw [List.filter_map]
   split
   ·rename_i h
    have : (fun b : List Pr => decide ((lastN D).frm ≤ ((n, b) : Nat × List Pr).1)) = fun _ => false := by
     funext b; simp; omega
    simp [Function.comp_def]; omega
   ·rename_i h
    simp [Function.comp_def]
    intro b _; omega
 exact key _
theorem allB_ok {F : Fls} {D : Disk} (h : DiskOk F D) : ∀ p ∈ allB D, p.1 ≤ 99999999 ∧ BatOk p.2 := fun p hp => by
 obtain ⟨n, hn, hb⟩ := List.mem_flatMap.1 hp
 obtain ⟨b, hb', rfl⟩ := List.mem_map.1 hb
 have := List.mem_range.1 hn
 have := h.tops
 exact ⟨by show n ≤ _; omega, h.bat n b hb'⟩
theorem allB_recs (D : Disk) : ((List.range D.ltop).flatMap fun n => (D.L n).map (batchL n)).map strL = (allB D).map fun p => strL (batchL p.1 p.2) := by
 unfold allB
 rw [List.map_flatMap, List.map_flatMap]
 unfold List.flatMap
 congr 1
 refine List.map_congr_left fun n _ => ?_
 rw [List.map_map, List.map_map]; rfl
theorem sel_len {f : Nat} {l : List (Nat × List Pr)} (i : Nat) : (selB f (l.take i)).flatten.length ≤ (selB f l).flatten.length := by
 conv => rhs; rw [← List.take_append_drop i l, selB_app, List.flatten_append, List.length_append]
 omega
theorem recs_notes (D : Disk) : ((List.range D.ntop).flatMap fun n => (D.N n).map noteL).map strL = (notesD D).map fun x => strL (noteL x) := by
 unfold notesD
 rw [List.map_flatMap, List.map_flatMap]
 unfold List.flatMap
 congr 1
 exact List.map_congr_left fun n _ => by rw [List.map_map]; rfl
theorem View.modn {α : Type} {E : Enc α} {h h' : Heap} {s : Sl} {l : List α} {S : Nat → Prop} (v : View E h s l) (m : Mod S h h') (hS : ∀ c, s.blk = some c → c < h.size → ¬ S c) : View E h' s l := by
 refine ⟨v.len, v.cap, fun i x hi => ?_⟩
 obtain ⟨a, ha, hc⟩ := v.cells i x hi
 refine ⟨a, ha, hc.mod m ?_⟩
 have hp := E.pos
 have hl := E.len x
 obtain ⟨u, hu⟩ : ∃ u, (E.enc x)[0]? = some u := ⟨_, List.getElem?_eq_getElem (by omega)⟩
 have := hget_lt (hc 0 u hu)
 rw [add_block, add_block] at this
 rw [add_block]
 exact hS _ (by simp [Sl.blk, ha]) this
section
variable {A : Amb} {B : Bud} {g h : Heap} {b : Nat} {Sb : Nat → Prop} {m : Bx} {D : Disk} {age c : Nat} {R : Value → Heap → Prop}
theorem LOpen_ok (E : Evn g) (Bx0 : IsBox h b Sb m) (hx : Ext g h) (hSb : ∀ c, Sb c → g.size ≤ c) (hd : m.down = false) (hD : DiskOk (ff m) D) (hR : RLim (ff m) D age c) (hc : c ≤ B.C) (hA : age + 1 ≤ B.A) (hw : wtF m.files ≤ B.W0 + age * B.K)
  (H0 : m.fuel ≠ -1 → ∀ h' d S' m', IsBox h' b S' m' → m'.down = true → Mod Sb h h' → (∀ c, S' c → Sb c ∨ h.size ≤ c) → RecS (ff m') (age + 1) c (mapD D) → (∀ y, ¬ Mine y → ff m' y = ff m y) → wtF m'.files ≤ B.W0 + (age + 1) * B.K → R (.tuple #[ptrV d, .int .i64 30]) h')
  (H1 : ∀ h' q' k' st' m' D', q'.b = b → StoreAt B g h' q' k' st' m' D' (age + 1) c → Stay m m' → mapS st' = mapD D → (∀ y, ¬ Mine y → ff m' y = ff m y) → Mod Sb h h' → (∀ c, k' c ≠ 0 → Sb c ∨ h.size ≤ c) → R (.tuple #[ptrV q'.d, .int .i64 0]) h') :
  HCalls A P f_lsm_Open #[ptrV b] h R := by
 have hBA := B.hA
 have hBC := B.hC
 have hW8 := Nat.le_trans hw (B.wt (a := age) (by omega))
 have htops := hD.tops
 have hN := lastN_ok hD
 have hlt0 := hR.ltop
 have hnt0 := hR.ntop
 have hfr0 := hR.frm
 have hnx0 := hR.next
 have hcn0 := hR.cnt
 have Sblt : ∀ c, Sb c → c < h.size := fun c hc => Bx0.lt hc
 refine ok_lsm_Open ?_
 unfold F_lsm_Open
 refine Open_ok (E.ext hx) Bx0 hd (by decide) (by decide) hW8 (fun h' l SL hl _ => ?_) fun h1 l nt sl SL hl x1 hnt L1 v1 f1 => ⟨_, _, _, rfl, PIf.no rfl ?_⟩
 ·obtain ⟨_, r2, _⟩ := wal_recs hd hD.note SL htops.2.2
  omega
 obtain ⟨r1, r2, r3⟩ := wal_recs hd hD.note SL htops.2.2
 rw [recs_notes] at r1
 have hrl := recs_len (nm := nn) (m := m) hd SL.inc
 rw [r1] at v1 hrl
 have hns1 : 1 ≤ l.getLast?.getD 0 + 1 := by omega
 generalize l.getLast?.getD 0 + 1 = nseg at *
 refine M.New_ok fun h2 T2 x2 s2 => ⟨_, rfl, New.mk fun h3 _ hb3 x3 s3 => ?_⟩
 have x02 := x1.trans x2
 have x03 := x02.trans x3
 have ntlt : nt < h1.size := blk_lt L1
 have L3 : IsLog h3 nt b nn nseg false := IsLog.ext (IsLog.ext L1 x2) x3
 have T3 : M.Tab h3 h1.size [] [] := T2.ext x3
 have v3 := (v1.ext x2).ext x3
 have sz01 := x1.size
 refine Join.mk fun K hK => ?_
 have main : ∀ (hB : Heap) (np : Sl), Ext h hB → hB[h2.size]? = some (.cells #[ptrV b, .pointer none, ptrV nt, ptrV h1.size, .slice none 0 0, .slice np.p np.len np.cap, .int .i64 ((lastN D).next : Int), .int .i64 ((lastN D).frm : Int), .bool false] t_lsm_DB (0, 0)) →
   Own IntE t_int hB np ((lastN D).names.map fun n : Nat => (n : Int)) → (∀ c, np.blk = some c → h2.size < c) → IsLog hB nt b nn nseg false → M.Tab hB h1.size [] [] → K () hB := by
  intro hB np xB cB onB hnp LB TB
  refine hK _ _ ?_
  have szB := xB.size
  have EB := E.ext (hx.trans xB)
  have hd2 : h2.size < hB.size := blk_lt cB
  have dge : h.size ≤ h2.size := x02.size
  refine LoadL.mk (s := np) (hget_lit1 cB rfl) ?_
  have npl : np.len = (lastN D).names.length := by rw [onB.len]; simp
  refine Loop.rule (fun mm x hh => ∃ (i : Nat) (tp : Sl) (ps : List Nat), x = ((i : Int), ()) ∧ mm = (lastN D).names.length - i ∧ i ≤ (lastN D).names.length ∧ Mod (fun c => c = h2.size ∨ hB.size ≤ c) hB hh ∧
    hh[h2.size]? = some (.cells #[ptrV b, .pointer none, ptrV nt, ptrV h1.size, .slice tp.p tp.len tp.cap, .slice np.p np.len np.cap, .int .i64 ((lastN D).next : Int), .int .i64 ((lastN D).frm : Int), .bool false] t_lsm_DB (0, 0)) ∧
    Own PtE t_p_table_Table hh tp ps ∧ ps.length = i ∧ (∀ c, tp.blk = some c → hB.size ≤ c) ∧ ∀ (j t n : Nat), ps[j]? = some t → (lastN D).names[j]? = some n → ∃ lo hi, TabAt hh t (D.T n) (fltL (D.T n)) lo hi ∧ hB.size ≤ lo ∧ hi ≤ hh.size ∧ ∀ c, tp.blk = some c → ¬ (lo ≤ c ∧ c < hi)) ?_
   ⟨0, ⟨none, 0, 0⟩, [], rfl, rfl, Nat.zero_le _, Mod.refl, cB, Own.nil, rfl, fun c hc => by simp [Sl.blk] at hc, fun j t n e => by simp at e⟩
  rintro K1 mm _ hh ⟨i, tp, ps, rfl, rfl, hi, mdi, ci, ot, hpl, htp, tab⟩ hK1
  dsimp only
  have szi := mdi.size
  have xi : Ext h hh := xB.then (mdi.weak fun c _ hc => by omega)
  have vn : View IntE hh np ((lastN D).names.map fun n : Nat => (n : Int)) := onB.view.mod mdi fun c hc e => by
   have := hnp c hc
   have := onB.lt hc
   omega
  rw [npl]
  refine PIf.intro (fun hq => ?_) (fun hq => ?_)
  ·have hil : i < (lastN D).names.length := by have := of_decide_eq_true hq; omega
   have hget : (lastN D).names[i]? = some (lastN D).names[i] := List.getElem?_eq_getElem hil
   have hmem : (lastN D).names[i] ∈ (lastN D).names := List.getElem_mem hil
   have hbl := hN.below _ hmem
   have hnn := hN.next
   have hcc := hN.cnt
   obtain ⟨ft1, ft2⟩ := hD.tab _ hmem
   rw [← npl]
   refine vn.idx (i := i) (x := ((lastN D).names[i] : Int)) (by rw [List.getElem?_map, hget]; rfl) fun a _ ca => LoadI.mk ca.int ?_
   generalize (lastN D).names[i] = nm at *
   refine lfile_ok (E.ext (hx.trans xi)) (by omega) fun h6 x6 => ⟨_, rfl, ?_⟩
   refine bRead_ok (Bx0.ext (xi.trans x6)) ⟨_, _, rfl, ?_⟩
   rw [ff_read hd, ft1]
   dsimp only
   rw [app_nil]
   refine PIf.no rfl ?_
   refine TOpen_ok ft2.tabS fun h8 t x8 T8 => ⟨_, _, rfl, PIf.no rfl ?_⟩
   have x68 := x6.trans x8
   have c8 := ext_cells x68 ci
   refine LoadL.mk (s := tp) (hget_lit1 c8 rfl) ?_
   have sz6 := x6.size
   have sz8 := x8.size
   refine New.append1 (E := PtE) (x := t) (s := tp) (l := ps) rfl app_pt (ot.ext x68) (by omega) (by simp [maxLen]; omega) fun s' h10 o10 m10 b10 _ => ?_
   have c10 := m10.blk c8 (fun e => by have := htp _ e; omega)
   refine Store.mk1 c10 (by simp) fun h11 hb11 m11 s11 => ?_
   rw [wrap_succ (by omega)]
   have sb : ∀ c, s'.blk = some c → hB.size ≤ c := fun c hc => by
    rcases b10 c hc with h | h
    ·exact htp c h
    ·omega
   have sz10 := m10.size
   refine hK1 ((lastN D).names.length - (i + 1)) _ _ (by omega) ⟨i + 1, s', ps ++ [t], rfl, rfl, hil, ?_, by simpa using hb11, o10.mod m11 (fun c hc e => by have := sb c hc; omega), by simp [hpl], sb, fun j t' n e1 e2 => ?_⟩
   ·exact (mdi.trans (Ext.mod x68)).trans ((m10.weak fun c _ hc => .inr (htp c hc)).trans (m11.weak fun c _ hc => .inl hc))
   ·by_cases hj : j < ps.length
    ·rw [List.getElem?_append_left hj] at e1
     obtain ⟨lo, hi', T1, t1, t2, t3⟩ := tab j t' n e1 e2
     refine ⟨lo, hi', ((T1.ext x68).mod m10 fun c c1 c2 hc => t3 c hc ⟨c1, c2⟩).mod m11 (fun c c1 c2 hc => by omega), t1, by omega, fun c hc hr => ?_⟩
     rcases b10 c hc with h | h
     ·exact t3 c h hr
     ·omega
    ·have hj2 : j = ps.length := by
      have := (List.getElem?_eq_some_iff.1 e1).1
      simp at this; omega
     subst hj2
     rw [List.getElem?_append_right (Nat.le_refl _)] at e1
     simp at e1
     subst e1
     rw [hpl, hget] at e2
     cases e2
     refine ⟨h6.size, h8.size, (T8.mod m10 fun c c1 c2 hc => by have := ot.lt hc; omega).mod m11 (fun c c1 c2 hc => by omega), by omega, by omega, fun c hc hr => ?_⟩
     rcases b10 c hc with h | h
     ·have := ot.lt h; omega
     ·omega
  have hil : i = (lastN D).names.length := by have := of_decide_eq_false hq; omega
  clear hK1 hi hq
  have LC : IsLog hh nt b nn nseg false := LB.mod mdi (by omega)
  have TC : M.Tab hh h1.size [] [] := TB.mod mdi fun c hc e => by
   rcases hc with rfl | ⟨y, hy, _⟩
   ·omega
   ·cases hy
  -- the log
  refine Open_ok (E.ext (hx.trans xi)) (Bx0.ext xi) hd (by decide) (by decide) hW8 (fun h' l' SL' hl' _ => ?_) fun h12 l' lg sl' SL' hl' x12 hlg L12 v12 f12 => ⟨_, _, _, rfl, PIf.no rfl ?_⟩
  ·obtain ⟨_, q2, _⟩ := wal_recs hd hD.log SL' ⟨htops.1, htops.2.1⟩
   omega
  obtain ⟨q1, q2, q3⟩ := wal_recs hd hD.log SL' ⟨htops.1, htops.2.1⟩
  rw [allB_recs] at q1
  have hrl2 := recs_len (nm := nl) (m := m) hd SL'.inc
  rw [q1] at v12 hrl2
  have hls1 : 1 ≤ l'.getLast?.getD 0 + 1 := by omega
  generalize l'.getLast?.getD 0 + 1 = lseg0 at *
  have c12 := ext_cells x12 ci
  have lglt : lg < h12.size := blk_lt L12
  refine Store.mk1 c12 (by simp) fun h13 hb13 m13 s13 => ?_
  have sz12 := x12.size
  have dlh : h2.size < hh.size := blk_lt ci
  have L13 : IsLog h13 lg b nl lseg0 false := IsLog.mod L12 m13 (by omega)
  have B13 : IsBox h13 b Sb m := ((Bx0.ext xi).ext x12).mod m13 fun c hc e => by have := Sblt c hc; omega
  have nSlg : ¬ Sb lg := fun hc => by have := Sblt _ hc; have := xi.size; omega
  have x013 : Ext h h13 := (xi.trans x12).then (m13.weak fun c _ hc => .inr (by omega))
  have sz13 := m13.size
  refine Loop.rule (fun mm (_ : Unit) hx => ∃ s : Nat, mm = (lastN D).frm - s ∧ IsLog hx lg b nl s false ∧ IsBox hx b Sb m ∧ Mod (fun c => Sb c ∨ c = lg) h13 hx ∧ lseg0 ≤ s ∧ (s = lseg0 ∨ s ≤ (lastN D).frm)) ?_ ⟨lseg0, rfl, L13, B13, Mod.refl, Nat.le_refl _, .inl rfl⟩
  rintro K2 mm _ h14 ⟨s, rfl, L14, B14, md14, hs1, hs2⟩ hK2
  have hN2 := hN.frm
  have c14 := md14.blk hb13 (by rintro (h | h); have := Sblt _ h; omega; omega)
  have x14g : Ext g h14 := (hx.trans x013).then (md14.weak fun c _ hc => by
   rcases hc with hc | rfl
   ·exact .inr (hSb c hc)
   ·exact .inr (by have := hx.size; have := xi.size; omega))
  have ev14 : Evn h14 := E.ext x14g
  refine LoadP.mk (hget_lit1 c14 rfl) ?_
  refine ok_wal_Log_Segment ?_
  unfold F_wal_Log_Segment
  refine PIf.no rfl (atI (LoadI.mk (hget_lit1 L14 rfl) ⟨_, rfl, ?_⟩))
  refine LoadI.mk (hget_lit1 c14 rfl) ⟨hget_lit1 c14 rfl, ?_⟩
  refine PIf.intro (fun hq2 => ?_) (fun hq2 => ?_)
  ·have hlt := of_decide_eq_true hq2
   refine LoadP.mk (hget_lit1 c14 rfl) ?_
   refine lRotate_ok ev14 L14 B14 nSlg (by decide) (by omega) (fun hne => absurd rfl hne) fun _ h16 B16 L16 m16 => ⟨_, _, rfl, PIf.no rfl ?_⟩
   exact hK2 ((lastN D).frm - (s + 1)) _ _ (by omega) ⟨s + 1, rfl, L16, B16, md14.trans m16, by omega, .inr (by omega)⟩
  have hfs : (lastN D).frm ≤ s := by have := of_decide_eq_false hq2; omega
  clear hK2
  -- memory
  have sz14 := md14.size
  have v14 : View StrE h14 sl' ((allB D).map fun p => strL (batchL p.1 p.2)) := (v12.mod m13 fun c hc e => by have := (f12 c hc).1; omega).mod md14 fun c hc e => by
   have h1 := f12 c hc
   rcases e with e | e
   ·have := Sblt c e; have := xi.size; omega
   ·exact h1.2 e
  have hsl : ∀ c, sl'.blk = some c → hh.size ≤ c := fun c hc => (f12 c hc).1
  have T14 : M.Tab h14 h1.size [] [] := ((TC.ext x12).mod m13 fun c hc e => by
   rcases hc with rfl | ⟨y, hy, _⟩
   ·omega
   ·cases hy).mod md14 fun c hc e => by
   rcases hc with rfl | ⟨y, hy, _⟩
   ·rcases e with e | e
    ·have := Sblt _ e; omega
    ·have := xi.size; omega
   ·cases hy
  have vlen : sl'.len = (allB D).length := by rw [v14.len]; simp
  have hcB := allB_ok hD
  have hcnt := hR.prs
  have hbD : (selB (lastN D).frm (allB D)).flatten.length ≤ c := by
   rw [sel_all]
   have : cntD D = _ := rfl
   unfold cntD at hcnt
   omega
  refine Loop.rule (fun mm xx hy => ∃ (i : Nat) (ns : List M.SNode), xx = ((i : Int), ()) ∧ mm = (allB D).length - i ∧ i ≤ (allB D).length ∧ Mod (fun c => c = h1.size ∨ h14.size ≤ c) h14 hy ∧ M.Tab hy h1.size ns (putsL [] (selB (lastN D).frm ((allB D).take i)).flatten) ∧ ∀ c, M.inT h1.size ns c → c = h1.size ∨ h14.size ≤ c) ?_
   ⟨0, [], rfl, rfl, Nat.zero_le _, Mod.refl, T14, fun c hc => by
    rcases hc with rfl | ⟨y, hy, _⟩
    ·exact .inl rfl
    ·cases hy⟩
  rintro K3 mm _ h17 ⟨i, ns, rfl, rfl, hi, md17, T17, hns⟩ hK3
  dsimp only
  have sz17 := md17.size
  have v17 := View.modn v14 md17 fun c hc hlt e => by have := hsl c hc; omega
  have c17 := md17.blk c14 (by omega)
  rw [vlen]
  refine PIf.intro (fun hq => ?_) (fun hq => ?_)
  ·have hil : i < (allB D).length := by have := of_decide_eq_true hq; omega
   have hget : (allB D)[i]? = some (allB D)[i] := List.getElem?_eq_getElem hil
   obtain ⟨hp1, hp2⟩ := hcB _ (List.getElem_mem hil)
   have htk : (allB D).take (i + 1) = (allB D).take i ++ [(allB D)[i]] := by rw [List.take_add_one, hget]; rfl
   have hsn := sel_len (f := (lastN D).frm) (l := allB D) (i + 1)
   refine Join.mk fun K4 hK4 => ?_
   rw [← vlen]
   refine v17.idx (i := i) (x := strL (batchL (allB D)[i].1 (allB D)[i].2)) (by rw [List.getElem?_map, hget]; rfl) fun a _ ca => LoadS.mk ca.str ?_
   have wi : IntKind.wrap .i64 ((i : Int) + (1 : Int)) = ((i + 1 : Nat) : Int) := wrap_succ (by rw [List.length_map] at hrl2; omega)
   rw [wi] at hK4
   generalize (allB D)[i] = pp at *
   obtain ⟨sg, bt⟩ := pp
   dsimp only at hp1 hp2 ⊢
   refine changes_ok hp1 hp2.len hp2.ok fun s19 h19 o19 x19 f19 => ⟨_, _, _, rfl, PIf.no rfl ?_⟩
   have c19 := ext_cells x19 c17
   refine LoadI.mk (hget_lit1 c19 rfl) ?_
   refine PIf.intro (fun hq3 => ?_) (fun hq3 => ?_)
   ·have hlt := of_decide_eq_true hq3
    refine hK4 _ _ (hK3 ((allB D).length - (i + 1)) _ _ (by omega) ⟨i + 1, ns, rfl, rfl, hil, md17.trans (Ext.mod x19), ?_, hns⟩)
    have e : selB (lastN D).frm ((allB D).take (i + 1)) = selB (lastN D).frm ((allB D).take i) := by
     rw [htk, selB_app]
     have : selB (lastN D).frm [(sg, bt)] = [] := by
      unfold selB
      rw [List.filter_cons, if_neg (by simp; omega)]; rfl
     rw [this, List.append_nil]
    rw [e]
    exact T17.ext x19
   ·have hge : (lastN D).frm ≤ sg := by have := of_decide_eq_false hq3; omega
    have e : (selB (lastN D).frm ((allB D).take (i + 1))).flatten = (selB (lastN D).frm ((allB D).take i)).flatten ++ bt := by
     rw [htk, selB_app]
     have : selB (lastN D).frm [(sg, bt)] = [bt] := by
      unfold selB
      rw [List.filter_cons, if_pos (by simpa using hge)]; rfl
     rw [this]; simp
    rw [e, List.length_append] at hsn
    have sz19 := x19.size
    refine Loop.rule (fun mm xx hz => ∃ (j : Nat) (ns' : List M.SNode), xx = ((j : Int), ()) ∧ mm = bt.length - j ∧ j ≤ bt.length ∧ Mod (fun c => c = h1.size ∨ h14.size ≤ c) h14 hz ∧ M.Tab hz h1.size ns' (putsL (putsL [] (selB (lastN D).frm ((allB D).take i)).flatten) (bt.take j)) ∧ (∀ c, M.inT h1.size ns' c → c = h1.size ∨ h14.size ≤ c) ∧ View PairE hz s19 bt ∧ (∀ c, s19.blk = some c → ¬ M.inT h1.size ns' c) ∧ h19.size ≤ hz.size) ?_
     ⟨0, ns, rfl, rfl, Nat.zero_le _, md17.trans (Ext.mod x19), T17.ext x19, hns, o19.view, fun c hc hI => by have := f19 c hc; have := T17.lt hI; omega, Nat.le_refl _⟩
    rintro K5 mm _ h20 ⟨j, ns', rfl, rfl, hj, md20, T20, hns', v20, f20, z20⟩ hK5
    dsimp only
    have c20 := md20.blk c14 (by omega)
    have hb64 := hp2.len
    rw [v20.len]
    refine PIf.intro (fun hq => ?_) (fun hq => ?_)
    ·have hjl : j < bt.length := by have := of_decide_eq_true hq; omega
     have hgj : bt[j]? = some bt[j] := List.getElem?_eq_getElem hjl
     rw [← v20.len]
     refine v20.idx hgj fun a _ ca => ?_
     obtain ⟨k0, k1, k2⟩ := ca.pair
     refine LoadS.mk k0 (LoadS.mk k1 (LoadB.mk k2 (New.pair fun b3 h24 _ hb24 x24 s24 => ?_)))
     have c24 := ext_cells x24 c20
     refine LoadP.mk (hget_lit1 c24 rfl) ?_
     refine LoadS.mk (hget_lit hb24 rfl) (LoadS.mk (hget_lit1 hb24 rfl) (LoadB.mk (hget_lit1 hb24 rfl) ?_))
     have l1 := M.putsL_len (l := (selB (lastN D).frm ((allB D).take i)).flatten) (t := [])
     have l2 := M.putsL_len (l := bt.take j) (t := putsL [] (selB (lastN D).frm ((allB D).take i)).flatten)
     rw [List.length_take] at l2
     simp only [List.length_nil, Nat.zero_add] at l1
     refine M.mPut_ok (x := bt[j]) (T20.ext x24) (by omega) fun ns'' h25 T25 m25 s25 => ⟨_, rfl, ?_⟩
     rw [wrap_succ (by omega)]
     have sz20 := md20.size
     have sz24 := x24.size
     refine hK5 (bt.length - (j + 1)) _ _ (by omega) ⟨j + 1, ns'', rfl, rfl, hjl, (md20.trans (Ext.mod x24)).trans (m25.weak fun c _ hc => hns' c hc), by rw [M.putsL_take hgj]; exact T25, fun c hc => ?_, (v20.ext x24).mod m25 (fun c hc hI => f20 c hc hI), fun c hc hI => ?_, by have := m25.size; omega⟩
     ·rcases s25 c hc with h | h
      ·exact hns' c h
      ·exact .inr (by omega)
     ·rcases s25 c hI with h | h
      ·exact f20 c hc h
      ·have := o19.lt hc
       omega
    ·have hjl : j = bt.length := by have := of_decide_eq_false hq; omega
     subst hjl
     rw [List.take_length] at T20
     refine hK4 _ _ (hK3 ((allB D).length - (i + 1)) _ _ (by omega) ⟨i + 1, ns', rfl, rfl, hil, md20, ?_, hns'⟩)
     rw [e, puts_app]
     exact T20
  have hil3 : i = (allB D).length := by have := of_decide_eq_false hq; omega
  subst hil3
  rw [List.take_length, sel_all] at T17
  clear hK3
  have ke : Mod (fun c => c = h2.size) hh h13 := (Ext.mod x12).trans m13
  have keep : ∀ c, hB.size ≤ c → c < hh.size → ¬ (c = h2.size) ∧ ¬ (Sb c ∨ c = lg) ∧ ¬ (c = h1.size ∨ h14.size ≤ c) := fun c c1 c2 => by
   refine ⟨by omega, ?_, by omega⟩
   rintro (h | h)
   ·have := Sblt c h; have := xB.size; omega
   ·omega
  have keep2 : ∀ c, h.size ≤ c → c < hh.size → c ≠ h2.size → c ≠ h1.size → ¬ (c = h2.size) ∧ ¬ (Sb c ∨ c = lg) ∧ ¬ (c = h1.size ∨ h14.size ≤ c) := fun c c1 c2 c3 c4 => by
   refine ⟨c3, ?_, by omega⟩
   rintro (h | h)
   ·have := Sblt c h; omega
   ·omega
  have ot17 : Own PtE t_p_table_Table h17 tp ps := ((ot.mod ke fun c hc => (keep c (htp c hc) (ot.lt hc)).1).mod md14 fun c hc => (keep c (htp c hc) (ot.lt hc)).2.1).mod md17 fun c hc => (keep c (htp c hc) (ot.lt hc)).2.2
  have nplt : ∀ c, np.blk = some c → h.size ≤ c ∧ c < hh.size ∧ c ≠ h2.size ∧ c ≠ h1.size := fun c hc => by have := hnp c hc; have := onB.lt hc; omega
  have on17 : Own IntE t_int h17 np ((lastN D).names.map fun n : Nat => (n : Int)) := (((onB.mod mdi fun c hc e => by have := nplt c hc; have := onB.lt hc; omega).mod ke fun c hc => (keep2 c (nplt c hc).1 (nplt c hc).2.1 (nplt c hc).2.2.1 (nplt c hc).2.2.2).1).mod md14 fun c hc => (keep2 c (nplt c hc).1 (nplt c hc).2.1 (nplt c hc).2.2.1 (nplt c hc).2.2.2).2.1).mod md17 fun c hc => (keep2 c (nplt c hc).1 (nplt c hc).2.1 (nplt c hc).2.2.1 (nplt c hc).2.2.2).2.2
  have kn := keep2 nt hnt (by omega) (by omega) (by omega)
  have LN17 : IsLog h17 nt b nn nseg false := ((LC.mod ke kn.1).mod md14 kn.2.1).mod md17 kn.2.2
  have LL17 : IsLog h17 lg b nl s false := L14.mod md17 (by omega)
  have BB17 : IsBox h17 b Sb m := B14.mod md17 fun c hc => by have := Sblt c hc; omega
  have x17g : Ext g h17 := x14g.then (md17.weak fun c _ hc => .inr (by have := hx.size; omega))
  have tab17 : ∀ (i : Nat) (t : Nat) (p : Nat × List Pr), ps[i]? = some t → ((lastN D).names.map fun n => (n, D.T n))[i]? = some p → ∃ lo hi, TabAt h17 t p.2 (fltL p.2) lo hi ∧ hB.size ≤ lo ∧ hi ≤ hh.size ∧ (∀ c, tp.blk = some c → ¬ (lo ≤ c ∧ c < hi)) ∧ TabOk p.2 := fun i' t p e1 e2 => by
   rw [List.getElem?_map] at e2
   cases hg : (lastN D).names[i']? with
   | none => rw [hg] at e2; cases e2
   | some n =>
    rw [hg] at e2
    cases e2
    obtain ⟨lo, hi', T1, t1, t2, t3⟩ := tab i' t n e1 hg
    refine ⟨lo, hi', ((T1.mod ke fun c c1 c2 => (keep c (by omega) (by omega)).1).mod md14 fun c c1 c2 => (keep c (by omega) (by omega)).2.1).mod md17 fun c c1 c2 => (keep c (by omega) (by omega)).2.2, t1, t2, t3, (hD.tab n (List.mem_of_getElem? hg)).2⟩
  have enm : ((lastN D).names.map fun n => (n, D.T n)).map (·.1) = (lastN D).names := by rw [List.map_map]; exact List.map_id _
  obtain ⟨k0, W0, hk0⟩ := DbH.make (g := g) (h := h17) (q := ⟨h2.size, b, lg, nt, h1.size, Sb, ns, tp, np, ps⟩) (st := ⟨freshD D, (lastN D).names.map fun n => (n, D.T n), (lastN D).next, (lastN D).frm, s, nseg, false⟩) (m := m) (N0 := h.size) (NB := hB.size) (NC := hh.size) (ND := h14.size)
   (by simpa [dbC] using c17) BB17 LL17 LN17 T17 ot17 (by simp [hpl, hil]) (by unfold nmS; rw [List.map_map]; exact on17) x17g hx.size (fun c hc => ⟨hSb c hc, Sblt c hc⟩)
   hnt ntlt (by show h1.size < h2.size; omega) hd2 szi hlg (by show lg < h14.size; omega) (fun c hc => ⟨hnp c hc, onB.lt hc⟩) (fun c hc => ⟨htp c hc, ot.lt hc⟩) hns tab17 (by omega)
  have modSb : Mod Sb h h17 := by
   refine ⟨by have := x013.size; omega, fun c hc hn => ?_⟩
   have e1 := x013.get c hc (fun h => h)
   have sz := x013.size
   have e2 := md14.get c (by omega) (by rintro (h | h); exact hn h; have := xi.size; omega)
   have e3 := md17.get c (by omega) (by omega)
   exact e3.trans (e2.trans e1)
  have sz017 := modSb.size
  have fFt : ∀ n, ff m (tfN n) ≠ none → n < 8 * age + 8 := hR.tfs
  have hflen := wtF_len m.files
  refine sweep_ok (N := 8 * age + 8) (q := ⟨h2.size, b, lg, nt, h1.size, Sb, ns, tp, np, ps⟩) E W0 hd hD enm.symm (by omega) fFt hnx0 (by simp; omega) (by omega)
   (fun hfu h18 S18 m18 B18 d18 md18 s18 dk18 fr18 sub18 wt18 => ⟨_, rfl, ?_⟩) fun h18 S18 k18 m18 nx18 W18 st18 dk18 fr18 cl18 nx1 nx2 wt18 md18 kk18 => ⟨_, rfl, ?_⟩
  ·refine H0 hfu h18 h2.size S18 m18 B18 d18 (modSb.then (md18.weak fun c _ hc => hk0 c hc)) (fun c hc => ?_) (fun G cr => ⟨D, dk18.crash cr, ?_, rfl⟩) (fun y hy => fr18 y fun n => not_t hy n) (Nat.le_trans wt18 (B.up (Nat.le_succ _) hw))
   ·rcases s18 c hc with h | h
    ·exact hk0 c h
    ·exact .inr (by omega)
   ·refine RLim.mono ⟨hR.ltop, hR.ntop, hR.next, hR.frm, hR.cnt, hR.prs, fun n hn => fFt n (sub18 n (cr.some hn))⟩ (Nat.le_succ _) (Nat.le_refl _)
  ·have ffl : ∀ n, ff m18 (fnB nl n) = ff m (fnB nl n) := fun n => fr18 _ (lt_ne' n)
   have ffn : ∀ n, ff m18 (fnB nn n) = ff m (fnB nn n) := fun n => fr18 _ (nt_ne n)
   have L18 : LiveD (ff m18) ⟨freshD D, (lastN D).names.map fun n => (n, D.T n), nx18, (lastN D).frm, s, nseg, false⟩ D :=
    ⟨dk18, enm.symm, fun p hp => by
     obtain ⟨n, _, rfl⟩ := List.mem_map.1 hp
     rfl, rfl, nx1, fun p hp => by
     obtain ⟨n, hn, rfl⟩ := List.mem_map.1 hp
     have h1 := hN.below n hn
     have h2 : (lastN D).next ≤ nx18 := nx1
     show n < nx18
     omega, rfl, fun n n1 n9 _ => by
     have n1 : s ≤ n := n1
     rw [ffl]; exact q3 n (by omega) n9, (fun h => by cases h), fun n n1 n9 => by rw [ffn]; exact r3 n n1 n9, ⟨hN.frm.1, hfs⟩, hns1, fun n hn => cl18 n hn⟩
   have lim18 : Lims ⟨freshD D, (lastN D).names.map fun n => (n, D.T n), nx18, (lastN D).frm, s, nseg, false⟩ D (age + 1) c := by
    have nx2' : nx18 ≤ 8 * age + 8 := nx2
    exact ⟨by show s ≤ _; omega, by show nseg ≤ _; omega, by show nx18 ≤ _; omega, by show ((lastN D).names.map _).length ≤ _; simp; omega, hR.prs, by omega, by omega⟩
   refine H1 h18 _ k18 _ m18 D rfl ⟨W18, st18.up, L18, lim18, Nat.le_trans wt18 (B.up (Nat.le_succ _) hw), hc⟩ st18 L18.map.symm (fun y hy => fr18 y fun n => not_t hy n) (modSb.then (md18.weak fun c _ hc => hk0 c hc)) fun c hc => ?_
   rcases kk18 c hc with h | h
   ·exact hk0 c h
   ·exact .inr (by omega)
 have hlen3 : sl.len = (notesD D).length := by rw [v3.len]; simp
 refine PIf.intro (fun hq => ?_) (fun hq => ?_)
 ·have hne : notesD D ≠ [] := fun e => by
   have := of_decide_eq_true hq
   rw [hlen3, e] at this; simp at this
  obtain ⟨ys, x, hys⟩ : ∃ ys x, notesD D = ys ++ [x] := ⟨_, _, (List.dropLast_concat_getLast hne).symm⟩
  have hl0 : lastN D = x := by unfold lastN; rw [hys, List.getLast?_concat]; rfl
  have hlen4 : sl.len = ys.length + 1 := by rw [hlen3, hys]; simp
  have hyl : ys.length ≤ 8000000000000 := by
   rw [hys] at hrl
   simp at hrl; omega
  rw [hlen4]
  have ewr : IntKind.wrap .i64 (((ys.length + 1 : Nat) : Int) - (1 : Int)) = ((ys.length : Nat) : Int) := by rw [wrap_i64 (by omega) (by omega)]; omega
  rw [ewr, ← hlen4]
  rw [hl0] at hN main
  have hxg : ((notesD D).map fun x => strL (noteL x))[ys.length]? = some (strL (noteL x)) := by rw [hys]; simp
  refine v3.idx hxg fun a _ ca => LoadS.mk ca.str ?_
  have hn1 := hN.next
  have h2' := hN.frm
  have h3' := hN.cnt
  have h4' := hN.below
  have enl : noteL x = putV x.next ++ (putV x.frm ++ (putV x.names.length ++ (x.names.flatMap putV ++ []))) := by simp [noteL, List.append_assoc]
  rw [enl]
  have nl0 := note_len hN
  rw [enl] at nl0
  simp only [List.length_append] at nl0
  refine vRead_ok fun h4 rd4 x4 => ⟨_, rfl, ?_⟩
  have cB := ext_cells x4 hb3
  refine vInt_ok (most := 2147483647) rd4 (by simp only [List.length_append]; omega) (by decide) fun h5 rd5 m5 => ⟨_, rfl, ?_⟩
  rw [intR_put (by omega) (by omega)] at rd5 ⊢
  refine vInt_ok (most := 99999999) rd5 (by simp only [List.length_append]; omega) (by decide) fun h6 rd6 m6 => ⟨_, rfl, ?_⟩
  rw [intR_put (by omega) (by omega)] at rd6 ⊢
  have sz4 := x4.size
  have rdne : h3.size ≠ h2.size := by omega
  have m46 : Mod (· = h3.size) h4 h6 := m5.trans m6
  have cB6 := m46.blk cB (by omega)
  refine Store.mk1 cB6 (by simp) fun h7 hb7 m7 s7 => Store.mk1 hb7 (by simp) fun h8 hb8 m8 s8 => ?_
  have m68 : Mod (· = h2.size) h6 h8 := m7.trans m8
  have rd8 : RdAt h8 h3.size ⟨putV x.names.length ++ (x.names.flatMap putV ++ []), false⟩ := m68.blk rd6 rdne
  refine vInt_ok (most := 65536) rd8 (by simp only [List.length_append]; omega) (by decide) fun h9 rd9 m9 => ⟨_, rfl, ?_⟩
  rw [intR_put (by omega) (by omega)] at rd9 ⊢
  have cB9 := m9.blk hb8 (fun e => rdne e.symm)
  have mod9 : Mod (fun c => h2.size ≤ c) h3 h9 := (Ext.mod x4).trans (((m46.weak fun c _ hc => by omega).trans (m68.weak fun c _ hc => by omega)).trans (m9.weak fun c _ hc => by omega))
  refine Loop.rule (fun mm xx hh => ∃ (i : Nat) (np : Sl), xx = ((i : Int), ()) ∧ mm = x.names.length - i ∧ i ≤ x.names.length ∧ Mod (fun c => h2.size ≤ c) h3 hh ∧ RdAt hh h3.size ⟨(x.names.drop i).flatMap putV ++ [], false⟩ ∧ Own IntE t_int hh np ((x.names.take i).map fun n : Nat => (n : Int)) ∧ (∀ c, np.blk = some c → h3.size < c) ∧
    hh[h2.size]? = some (.cells #[ptrV b, .pointer none, ptrV nt, ptrV h1.size, .slice none 0 0, .slice np.p np.len np.cap, .int .i64 (x.next : Int), .int .i64 (x.frm : Int), .bool false] t_lsm_DB (0, 0))) ?_
   ⟨0, ⟨none, 0, 0⟩, rfl, rfl, Nat.zero_le _, mod9, rd9, Own.nil, fun c hc => by simp [Sl.blk] at hc, by simpa using cB9⟩
  rintro K6 mm _ hh ⟨i, np, rfl, rfl, hi, mdi, rdi, oi, hnp, ci⟩ hK6
  have szi := mdi.size
  dsimp only
  refine PIf.intro (fun hq => ?_) (fun hq => ?_)
  ·have hil : i < x.names.length := by have := of_decide_eq_true hq; omega
   have hget : x.names[i]? = some x.names[i] := List.getElem?_eq_getElem hil
   have hdr : x.names.drop i = x.names[i] :: x.names.drop (i + 1) := List.drop_eq_getElem_cons hil
   have hbi := h4' _ (List.getElem_mem hil)
   refine LoadL.mk (s := np) (hget_lit1 ci rfl) ?_
   rw [hdr, List.flatMap_cons, List.append_assoc] at rdi
   have lres : ((x.names.drop (i + 1)).flatMap putV).length ≤ 600000 := by
    have := names_len (l := x.names.drop (i + 1)) fun n hn => by have := h4' n (List.mem_of_mem_drop hn); omega
    have e := List.length_drop (l := x.names) (i := i + 1)
    omega
   have l10 := putV_len10 (n := x.names[i]) (by omega)
   refine vInt_ok (most := 2147483647) rdi (by simp only [List.length_append, List.length_nil]; omega) (by decide) fun h34 rd34 m34 => ⟨_, rfl, ?_⟩
   rw [intR_put (by omega) (by omega)] at rd34 ⊢
   have c34 := m34.blk ci (fun e => rdne e.symm)
   refine ⟨hget_lit1 c34 rfl, New.mk fun h35 _ hb35 x35 s35 => ⟨hget_lit1 (ext_cells x35 c34) rfl, ?_⟩⟩
   have o34 : Own IntE t_int h34 np ((x.names.take i).map fun n : Nat => (n : Int)) := oi.mod m34 fun c hc e => by have := hnp c hc; omega
   have o35 := o34.ext x35
   have src : View IntE h35 ⟨some ⟨h34.size, 0, none⟩, 1, 1⟩ [(x.names[i] : Int)] := (Own.lit (E := IntE) (l := [(x.names[i] : Int)]) hb35 rfl (by simp [maxLen])).view
   refine append_own (s := np) (src := ⟨some ⟨h34.size, 0, none⟩, 1, 1⟩) app_int4 o35 src (by simp; omega) (by simp [maxLen]; omega) fun s' h36 o36 m36 b36 _ => ?_
   have c36 := m36.blk (ext_cells x35 c34) (fun e => by have := hnp _ e; omega)
   refine Store.mk1 c36 (by simp) fun h37 hb37 m37 s37 => ?_
   rw [wrap_succ (by omega)]
   have sz34 := m34.size
   have sb36 : ∀ c, s'.blk = some c → h3.size < c := fun c hc => by
    rcases b36 c hc with h | h
    ·exact hnp c h
    ·omega
   have rdlt : h3.size < h4.size := blk_lt rd4
   refine hK6 (x.names.length - (i + 1)) _ _ (by omega) ⟨i + 1, s', rfl, rfl, hil, ?_, ?_, ?_, sb36, by simpa using hb37⟩
   ·exact mdi.trans ((((m34.weak fun c _ hc => by omega).trans (Ext.mod x35)).trans (m36.weak fun c _ hc => by have := hnp c hc; omega)).trans (m37.weak fun c _ hc => by omega))
   ·have r35 := x35.blk rd34 (fun h => h)
    have r36 := m36.blk r35 (fun e => by have := hnp _ e; omega)
    exact m37.blk r36 rdne
   ·rw [List.take_add_one, hget]
    simp only [Option.toList_some, List.map_append, List.map_cons, List.map_nil]
    exact o36.mod m37 fun c hc e => by have := sb36 c hc; omega
  ·have hil : i = x.names.length := by have := of_decide_eq_false hq; omega
   subst hil
   rw [List.take_length] at oi
   rw [List.drop_length] at rdi
   refine vEnd_ok rdi ⟨_, rfl, ?_⟩
   have eend : endR ⟨([] : List Nat).flatMap putV ++ [], false⟩ = true := rfl
   rw [eend]
   refine PIf.no rfl ?_
   have keepB : ∀ {bb : Nat} {o : Obj}, h3[bb]? = some o → bb < h2.size → hh[bb]? = some o := fun e hlt => mdi.blk e (by omega)
   refine main hh np ⟨by omega, fun c hc hn => ?_⟩ ci oi (fun c hc => by have := hnp c hc; omega) (keepB L3 (by omega)) (T3.mod mdi fun c hc e => ?_)
   ·have h0 := x03.get c hc hn
    rw [← h0]
    exact mdi.get c (by omega) (by omega)
   ·rcases hc with rfl | ⟨y, hy, _⟩
    ·omega
    ·cases hy
 ·have h0 : notesD D = [] := by
   have := of_decide_eq_false hq
   exact List.eq_nil_of_length_eq_zero (by omega)
  have hl0 : lastN D = ⟨1, 1, []⟩ := by unfold lastN; rw [h0]; rfl
  refine main h3 ⟨none, 0, 0⟩ x03 (by rw [hl0]; exact hb3) (by rw [hl0]; exact Own.nil) (fun c hc => by simp [Sl.blk] at hc) L3 T3
end
end Go.Lf.G

/-
 Contracts: the document's map (chapter 9).
-/
set_option maxRecDepth 100000
set_option linter.unusedVariables false
set_option linter.unusedSimpArgs false
namespace Go.Lf.G
open Go
open M (Sorted findK putL putsL refAllL findLs GoodL wrongP OkL liveL atK thereK)
theorem rCheck_ok {A : Amb} {h : Heap} {s : Sl} {l : List Pr} {R : Value → Heap → Prop} (v : View PairE h s l) (H : ∀ h', Ext h h' → R (.int .i64 (checkL l)) h') : HCalls A P f_wherryref09_Check #[.slice s.p s.len s.cap] h R := by
 refine ok_wherryref09_Check ?_
 unfold F_wherryref09_Check
 rw [v.len]
 refine PIf.intro (fun hq => ?_) (fun hq => ?_)
 ·have h0 : l.length = 0 := by have : ((l.length : Nat) : Int) = 0 := (by simpa using hq); omega
  have := H h Mod.refl
  unfold checkL at this
  rwa [if_pos h0] at this
 have h0 : l.length ≠ 0 := fun e => by rw [e] at hq; cases hq
 refine PIf.intro (fun hq => ?_) (fun hq => ?_)
 ·have h1 : l.length > 64 := by have := of_decide_eq_true hq; omega
  have := H h Mod.refl
  unfold checkL at this
  rwa [if_neg h0, if_pos h1] at this
 have h1 : ¬ l.length > 64 := by have := of_decide_eq_false hq; omega
 have hck : checkL l = firstW l := by unfold checkL; rw [if_neg h0, if_neg h1]
 rw [hck] at H
 refine Loop.rule (fun mm x hh => ∃ i : Nat, x = ((i : Int), ()) ∧ mm = l.length - i ∧ i ≤ l.length ∧ Ext h hh ∧ firstW (l.take i) = 0) ?_ ⟨0, rfl, rfl, by omega, Mod.refl, rfl⟩
 rintro K mm _ hh ⟨i, rfl, rfl, hi, xx, hw⟩ hK
 dsimp only
 refine PIf.intro (fun hq => ?_) (fun hq => ?_)
 ·have hil : i < l.length := by have := of_decide_eq_true hq; omega
  have hget : l[i]? = some l[i] := List.getElem?_eq_getElem hil
  rw [← v.len]
  refine (v.ext xx).idx hget fun a _ c => ?_
  obtain ⟨c0, c1, c2⟩ := c.pair
  refine LoadS.mk c0 (LoadS.mk c1 (LoadB.mk c2 ?_))
  refine M.Wrong_ok (x := l[i]) fun h2 x2 _ => ⟨_, rfl, ?_⟩
  have hsp := firstW_split hget hw
  refine PIf.intro (fun q => ?_) (fun q => ?_)
  ·have hne : wrongP l[i] ≠ 0 := by simpa using q
   have := H h2 (xx.trans x2)
   rw [hsp, if_pos hne] at this
   exact this
  ·have he : wrongP l[i] = 0 := by simpa using q
   rw [wrap_succ (by omega)]
   refine hK (l.length - (i + 1)) _ _ (by omega) ⟨i + 1, rfl, rfl, hil, xx.trans x2, ?_⟩
   rw [List.take_add_one, hget]
   exact firstW_snoc hw he
 ·have hil : i = l.length := by have := of_decide_eq_false hq; omega
  subst hil
  rw [List.take_length] at hw
  have := H hh xx
  rwa [hw] at this
/-- where a key stands -/
theorem rAt_ok {A : Amb} {h : Heap} {s : Sl} {l : List Pr} {key : ByteArray} {R : Value → Heap → Prop} (v : View PairE h s l) (hl : l.length ≤ 1099511627776) (H : ∀ h', Ext h h' → R (.tuple #[.int .i64 (atK key l : Int), .bool (thereK key l)]) h') : HCalls A P f_wherryref09_Map_at #[.agg #[.slice s.p s.len s.cap], .string key] h R := by
 refine ok_wherryref09_Map_at ?_
 unfold F_wherryref09_Map_at
 refine New.mk fun h1 _ hb1 x1 s1 => ?_
 have v1 := v.ext x1
 refine Loop.rule (fun mm x hh => ∃ i : Nat, x = ((i : Int), ()) ∧ mm = l.length - i ∧ i ≤ atK key l ∧ hh = h1) ?_ ⟨0, rfl, rfl, Nat.zero_le _, rfl⟩
 rintro K mm _ hh ⟨i, rfl, rfl, hi, eh⟩ hK
 obtain rfl : h1 = hh := eh.symm
 have hle := M.atK_le key l
 obtain ⟨t1, t2, t3⟩ := M.takeWhile_step (p := fun q => sLt q.key key) (l := l) (i := i) (show i ≤ (l.takeWhile fun q => sLt q.key key).length from hi)
 refine Join.mk fun K1 hK1 => ?_
 have fin : (i = atK key l) → K1 (false, ()) h1 := fun e => hK1 _ _ (PIf.no rfl (by
  refine LoadL.mk (s := s) (hget_lit hb1 rfl) ?_
  rw [v1.len]
  have := H h1 x1
  refine PIf.intro (fun q => ?_) (fun q => ?_)
  ·have hil : i < l.length := by have := of_decide_eq_true q; omega
   have hget : l[i]? = some l[i] := List.getElem?_eq_getElem hil
   refine LoadL.mk (s := s) (hget_lit hb1 rfl) (v1.idx hget fun a _ c => ?_)
   obtain ⟨c0, _, _⟩ := c.pair
   refine LoadS.mk c0 ?_
   unfold M.thereK at this
   rw [← e, hget] at this
   rw [sEq_iff]
   exact this
  ·have hil : ¬ i < l.length := by have := of_decide_eq_false q; omega
   have hnone : l[i]? = none := by simp; omega
   unfold M.thereK at this
   rw [← e, hnone] at this
   exact this))
 refine LoadL.mk (s := s) (hget_lit hb1 rfl) ?_
 rw [v1.len]
 refine PIf.intro (fun q => ?_) (fun q => ?_)
 ·have hil : i < l.length := by have := of_decide_eq_true q; omega
  have hget : l[i]? = some l[i] := List.getElem?_eq_getElem hil
  refine LoadL.mk (s := s) (hget_lit hb1 rfl) (v1.idx hget fun a _ c => ?_)
  obtain ⟨c0, _, _⟩ := c.pair
  refine LoadS.mk c0 ?_
  cases hb : sLt l[i].key key with
  | true =>
   refine hK1 _ _ (PIf.yes rfl ?_)
   rw [wrap_succ (by omega)]
   have := t1 _ hget hb
   exact hK (l.length - (i + 1)) _ _ (by omega) ⟨i + 1, rfl, rfl, this, rfl⟩
  | false => exact fin (t2 _ hget hb)
 ·have hil : ¬ i < l.length := by have := of_decide_eq_false q; omega
  exact fin (t3 (by simp; omega))
theorem wr1_len (m : List Pr) (p : Pr) : (wr1 m p).length ≤ m.length + 1 := by
 unfold wr1
 have := M.atK_le p.key m
 simp only [List.length_append, List.length_take, List.length_drop]
 split <;> split <;> simp <;> omega
theorem wrL_len : ∀ (b m : List Pr), (wrL m b).length ≤ m.length + b.length
 | [], m => by simp [wrL]
 | p :: b, m => by
  have h1 := wr1_len m p
  have h2 := wrL_len b (wr1 m p)
  show (wrL (wr1 m p) b).length ≤ _
  simp only [List.length_cons]; omega
theorem wrL_take {m b : List Pr} {i : Nat} {x : Pr} (h : b[i]? = some x) : wrL m (b.take (i + 1)) = wr1 (wrL m (b.take i)) x := by
 rw [List.take_add_one, h]
 show wrL m (b.take i ++ [x]) = _
 unfold wrL
 rw [List.foldl_append]; rfl
/-- a batch, as the document has it -/
theorem rWrite_ok {A : Amb} {h : Heap} {s sb : Sl} {m b : List Pr} {R : Value → Heap → Prop} (v : View PairE h s m) (vb : View PairE h sb b) (hm : m.length + b.length ≤ 1000000)
  (H : ∀ s' h', View PairE h' s' (wrL m b) → (∀ c, s'.blk = some c → s.blk = some c ∨ (h.size ≤ c ∧ c < h'.size)) → Ext h h' → R (.agg #[.slice s'.p s'.len s'.cap]) h') : HCalls A P f_wherryref09_Map_Write #[.agg #[.slice s.p s.len s.cap], .slice sb.p sb.len sb.cap] h R := by
 refine ok_wherryref09_Map_Write ?_
 unfold F_wherryref09_Map_Write
 refine New.mk fun h1 _ hb1 x1 s1 => New.mk fun h2 _ hb2 x2 s2 => ?_
 have x02 := x1.trans x2
 refine Loop.rule (fun mm x hh => ∃ (i : Nat) (si : Sl), x = ((i : Int), ()) ∧ mm = b.length - i ∧ i ≤ b.length ∧ Mod (fun c => h.size ≤ c) h2 hh ∧ hh[h.size]? = some (.cells #[.slice si.p si.len si.cap] t_wherryref09_Map (0, 0)) ∧ hh[h1.size]? = some (.cells #[.slice none 0 0] t_wherryref09_Map (0, 0)) ∧ View PairE hh si (wrL m (b.take i)) ∧ ((si = s ∧ wrL m (b.take i) = m) ∨ ∀ c, si.blk = some c → h1.size < c ∧ c < hh.size)) ?_
  ⟨0, s, rfl, rfl, Nat.zero_le _, Mod.refl, ext_cells x2 hb1, hb2, v.ext x02, .inl ⟨rfl, rfl⟩⟩
 rintro K mm _ hh ⟨i, si, rfl, rfl, hi, mdi, ci, c2, vi, bi⟩ hK
 have szi := mdi.size
 have xi : Ext h hh := x02.then (mdi.weak fun c _ hc => .inr hc)
 have vbi := vb.ext xi
 dsimp only
 rw [vb.len]
 refine PIf.intro (fun hq => ?_) (fun hq => ?_)
 ·have hil : i < b.length := by have := of_decide_eq_true hq; omega
  have hget : b[i]? = some b[i] := List.getElem?_eq_getElem hil
  have hml := wrL_len (b.take i) m
  rw [List.length_take] at hml
  have htk := wrL_take (m := m) hget
  rw [← vb.len]
  refine LoadL.mk (s := si) (hget_lit ci rfl) (vbi.idx hget fun a _ ca => ?_)
  obtain ⟨k0, k1, k2⟩ := ca.pair
  refine LoadS.mk k0 ?_
  generalize b[i] = p at *
  generalize wrL m (b.take i) = w at *
  refine rAt_ok vi (by omega) fun h4 x4 => ⟨_, _, rfl, ?_⟩
  have hle := M.atK_le p.key w
  have c4 := ext_cells x4 ci
  have v4 := vi.ext x4
  refine LoadL.mk (s := si) (hget_lit c4 rfl) ⟨⟨by omega, by have := v4.cap; have := v4.len; omega⟩, ?_⟩
  have hcat : (((atK p.key w : Nat) : Int)).toNat = atK p.key w := by omega
  rw [hcat]
  refine append_own (E := PairE) (s := ⟨none, 0, 0⟩) (l := []) (src := ⟨slOff si.p si.cap 0 3, atK p.key w - 0, si.cap - 0⟩) app_pair Own.nil (v4.sub (lo := 0) (hi := atK p.key w) (by omega) hle) (by simp; omega) (by simp [maxLen]; omega) fun s5 h5 o5 m5 b5 _ => ?_
  rw [List.drop_zero, List.nil_append] at o5
  have x5 : Ext h4 h5 := m5.weak (by simp [Sl.blk])
  have x45 := x4.trans x5
  have b5' : ∀ c, s5.blk = some c → hh.size ≤ c := fun c hc => by
   rcases b5 c hc with h | h
   ·simp [Sl.blk] at h
   ·have := x4.size; omega
  refine Join.mk fun K1 hK1 => ?_
  -- behind the pair
  have rest : ∀ (s6 : Sl) (h6 : Heap), Own PairE t_api_Pair h6 s6 (w.take (atK p.key w) ++ if p.gone then [] else [p]) → (∀ c, s6.blk = some c → hh.size ≤ c) → Mod (fun c => hh.size ≤ c) hh h6 → K1 (s6, ()) h6 := fun s6 h6 o6 b6 m6 => hK1 _ _ (by
   refine Join.mk fun K2 hK2 => ?_
   have sz6 := m6.size
   have hb1lt : h.size < hh.size := blk_lt ci
   have c6 := m6.blk ci (by omega)
   have v6 : View PairE h6 si w := View.modn vi m6 fun c hc hlt hge => by omega
   have go : ∀ j : Nat, j = (if thereK p.key w then atK p.key w + 1 else atK p.key w) → j ≤ w.length → K2 ((j : Int), ()) h6 := fun j ej hj => hK2 _ _ (by
    refine LoadL.mk (s := si) (hget_lit c6 rfl) ⟨⟨by omega, by have := v6.len; omega⟩, ?_⟩
    have hcat2 : (((j : Nat) : Int)).toNat = j := by omega
    rw [hcat2]
    have hlen := v6.len
    have vs := v6.sub (lo := j) (hi := w.length) hj (Nat.le_refl _)
    rw [← hlen] at vs
    have ltk : (w.take (atK p.key w) ++ if p.gone then [] else [p]).length ≤ atK p.key w + 1 := by
     simp only [List.length_append, List.length_take]; split <;> simp <;> omega
    refine append_own (E := PairE) (s := s6) (src := ⟨slOff si.p si.cap j 3, si.len - j, si.cap - j⟩) app_pair o6 vs (by rw [hlen]; simp only [List.length_drop, List.length_take]; omega) (by rw [hlen]; simp only [List.length_drop, List.length_take, maxLen]; omega) fun s7 h7 o7 m7 b7 _ => ?_
    have b7' : ∀ c, s7.blk = some c → hh.size ≤ c := fun c hc => by
     rcases b7 c hc with h | h
     ·exact b6 c h
     ·omega
    have m67 : Mod (fun c => hh.size ≤ c) hh h7 := m6.trans (m7.weak fun c _ hc => b6 c hc)
    have c7 := m67.blk ci (by omega)
    refine Store.mk (hb := c7) (j := 0) (by simp) fun h8 hb8 m8 s8 => ?_
    rw [wrap_succ (by omega)]
    have hb2lt : h1.size < hh.size := blk_lt c2
    refine hK (b.length - (i + 1)) _ _ (by omega) ⟨i + 1, s7, rfl, rfl, hil, (mdi.trans (m67.weak fun c _ hc => by omega)).trans (m8.weak fun c _ hc => by omega), by simpa using hb8, m8.blk (m67.blk c2 (by omega)) (by omega), ?_, .inr fun c hc => by have := b7' c hc; have := o7.lt hc; omega⟩
    rw [htk]
    have := (o7.mod m8 fun c hc e => by have := b7' c hc; omega).view
    rw [hlen, List.take_length, ej] at this
    unfold wr1
    exact this)
   refine PIf.intro (fun q => ?_) (fun q => ?_)
   ·rw [wrap_succ (by omega)]
    have hlt := M.there_lt q
    exact go _ (by rw [if_pos q]) hlt
   ·exact go _ (by rw [if_neg (by rw [q]; decide)]) hle)
  have vb5 := vbi.ext x45
  refine vb5.idx hget fun a1 _ ca1 => ?_
  obtain ⟨j0, j1, j2⟩ := ca1.pair
  refine LoadB.mk j2 ?_
  refine PIf.intro (fun q => ?_) (fun q => ?_)
  ·have hg : p.gone = false := by simpa using q
   refine vb5.idx hget fun a2 _ ca2 => ?_
   obtain ⟨i0, i1, i2⟩ := ca2.pair
   refine LoadS.mk i0 (LoadS.mk i1 (LoadB.mk i2 ?_))
   refine New.append1 (E := PairE) (x := p) (s := s5) (l := w.take (atK p.key w)) rfl app_pair o5 (by simp; omega) (by simp [maxLen]; omega) fun s6 h6 o6 m6 b6 _ => ?_
   refine rest s6 h6 (by rw [hg]; exact o6) (fun c hc => ?_) ((Ext.mod x45).trans (m6.weak fun c _ hc => b5' c hc))
   rcases b6 c hc with h | h
   ·exact b5' c h
   ·have := x45.size; omega
  ·have hg : p.gone = true := by simpa using q
   exact rest s5 h5 (by rw [hg]; simpa using o5) b5' (Ext.mod x45)
 ·have hil : i = b.length := by have := of_decide_eq_false hq; omega
  subst hil
  rw [List.take_length] at vi bi
  refine LoadL.mk (s := si) (hget_lit ci rfl) (Store.mk (hb := c2) (j := 0) (by simp) fun h8 hb8 m8 s8 => ?_)
  have hb8 : h8[h1.size]? = some (.cells #[.slice si.p si.len si.cap] t_wherryref09_Map (0, 0)) := by simpa using hb8
  refine LoadL.mk (s := si) (hget_lit hb8 rfl) ?_
  have x8 : Ext h h8 := xi.then (m8.weak fun c _ hc => .inr (by omega))
  rcases bi with ⟨e1, e2⟩ | bi
  ·rw [e2] at H
   subst e1
   exact H si h8 (v.ext x8) (fun c hc => .inl hc) x8
  ·exact H si h8 (View.modn vi m8 fun c hc hlt e => by have := bi c hc; omega) (fun c hc => .inr (by have := bi c hc; have := m8.size; omega)) x8
end Go.Lf.G

/-
 Contracts: the document's map is read; a store held against it; a store that is awake (chapter 9).
-/
set_option maxRecDepth 100000
set_option linter.unusedVariables false
set_option linter.unusedSimpArgs false
namespace Go.Lf.G
open Go
open M (Sorted findK putL putsL refAllL findLs GoodL wrongP OkL liveL atK thereK)
/-! ### told -/
theorem key_all (k : ByteArray) : keyR ⟨#[]⟩ ⟨#[]⟩ k = true := by
 have h : sLt k (⟨#[]⟩ : ByteArray) = false := by
  unfold sLt
  rw [ByteArray.toList_eq, ByteArray.toList_eq]
  cases k.data.toList <;> rfl
 unfold keyR
 rw [h]; rfl
theorem scan_all {m : List Pr} {most : Nat} (h : m.length ≤ most) : scanM m ⟨#[]⟩ ⟨#[]⟩ (most : Int) = m := by
 unfold scanM cutL
 rw [List.filter_eq_self.2 fun x _ => key_all x.key, List.take_of_length_le (by omega)]
section
variable {A : Amb} {B : Bud} {g h : Heap} {q : Hp} {k : Nat → Nat} {st : Db} {m : Bx} {D : Disk} {age c : Nat} {R : Value → Heap → Prop}
theorem StoreAt.frlen (S : StoreAt B g h q k st m D age c) : st.fr.length ≤ 1000000 ∧ st.ts.length ≤ 100000 ∧ (refAllL (st.fr :: tabsS st)).length ≤ 1099511627776 ∧ (mapS st).length ≤ 100000 := by
 have h1 := S.disk.frlen S.lim
 have h2 := S.disk.alllen S.lim
 have h3 := S.hc
 have h4 := B.hC
 have h5 := S.disk.ntok.cnt
 rw [S.disk.nmle] at h5
 have h6 : (mapS st).length ≤ (refAllL (st.fr :: tabsS st)).length := live_len _
 omega
theorem StoreAt.sorted (S : StoreAt B g h q k st m D age c) : Sorted (mapS st) := store_sorted _ _
theorem ltold_ok {s : Sl} {mp : List Pr} (S : StoreAt B g h q k st m D age c) (v : View PairE h s mp) (hmp : ∀ x ∈ mp, x.key.size ≤ 1099511627776) (H : ∀ h', Ext h h' → R (.bool (decide (mapS st = mp))) h') : HCalls A P f_wherrylaw09_told #[ptrV q.d, .agg #[.slice s.p s.len s.cap]] h R := by
 obtain ⟨l1, l2, l3, l4⟩ := S.frlen
 refine ok_wherrylaw09_told ?_
 unfold F_wherrylaw09_told
 refine New.mk fun h1 _ hb1 x1 s1 => ?_
 refine Scan_ok (S.mem.on x1) l1 l2 l3 fun sl h2 o2 b2 x2 => ⟨sl, _, rfl, ?_⟩
 rw [show (1048576 : Int) = ((1048576 : Nat) : Int) from rfl, scan_all (by omega)] at o2
 have x02 := x1.trans x2
 have c2 := ext_cells x2 hb1
 refine Join.mk fun K hK => PIf.no rfl (LoadL.mk (s := s) (hget_lit c2 rfl) ?_)
 refine M.Same_ok o2.view (v.ext x02) (by omega) ⟨_, rfl, ?_⟩
 by_cases he : mapS st = mp
 ·rw [decide_eq_true he]
  rw [decide_eq_true he] at H
  refine hK _ _ (PIf.no rfl (LoadL.mk (s := s) (hget_lit c2 rfl) ?_))
  have hlen : mp.length ≤ 100000 := by rw [← he]; exact l4
  refine Loop.rule (fun mm x hh => ∃ i : Nat, x = ((i : Int), ()) ∧ mm = mp.length - i ∧ i ≤ mp.length ∧ Ext h hh) ?_ ⟨0, rfl, rfl, Nat.zero_le _, x02⟩
  rintro K1 mm _ hh ⟨i, rfl, rfl, hi, xi⟩ hK1
  dsimp only
  rw [v.len]
  refine PIf.intro (fun hq => ?_) (fun hq => ?_)
  ·have hil : i < mp.length := by have := of_decide_eq_true hq; omega
   have hget : mp[i]? = some mp[i] := List.getElem?_eq_getElem hil
   have hmem : mp[i] ∈ mp := List.getElem_mem hil
   rw [← v.len]
   refine (v.ext xi).idx hget fun a _ ca => ?_
   obtain ⟨c0, c1, c2⟩ := ca.pair
   have hks := hmp _ hmem
   have hfind : findK mp[i].key (mapS st) = some mp[i] := by rw [he]; exact (show Sorted mp by rw [← he]; exact S.sorted).find hmem
   generalize mp[i] = p at *
   refine LoadS.mk c0 (LoadS.mk c1 (LoadB.mk c2 (New.pair fun b2 h7 _ hb7 x7 s7 => ?_)))
   refine LoadS.mk (hget_lit hb7 rfl) ?_
   have x07 := xi.trans x7
   refine Get_ok (S.mem.on x07) l2 hks fun h9 x9 => ⟨_, _, _, rfl, ?_⟩
   have eg : getM (mapS st) p.key = (p.val, true) := by unfold getM; rw [hfind]
   rw [eg]
   refine Join.mk fun K2 hK2 => PIf.no rfl (PIf.no rfl (LoadS.mk (hget_lit1 (ext_cells x9 hb7) rfl) (hK2 _ _ ?_)))
   refine PIf.no ?_ ?_
   ·show (!sEq p.val p.val) = false
    rw [sEq_iff, decide_eq_true rfl]; rfl
   ·rw [wrap_succ (by omega)]
    exact hK1 (mp.length - (i + 1)) _ _ (by omega) ⟨i + 1, rfl, rfl, hil, x07.trans x9⟩
  ·exact H hh xi
 ·rw [decide_eq_false he]
  rw [decide_eq_false he] at H
  exact hK _ _ (PIf.yes rfl (H h2 x02))
end
end Go.Lf.G

/-
 A store that is awake (chapter 9).
-/
set_option maxRecDepth 100000
set_option linter.unusedVariables false
set_option linter.unusedSimpArgs false
namespace Go.Lf.G
open Go
open M (Sorted findK putL putsL refAllL findLs GoodL wrongP OkL liveL atK thereK)
def D0 : Disk := ⟨fun _ => [], fun _ => [], fun _ => [], 1, 1⟩
theorem last0 : lastN D0 = ⟨1, 1, []⟩ := rfl
/-- an empty store, on a box on which other files alone lie -/
theorem disk0 {F : Fls} (hl : ∀ n, F (fnB nl n) = none) (hn : ∀ n, F (fnB nn n) = none) (ht : ∀ x, F x ≠ none → (bl x).head? ≠ some 116) : DiskOk F D0 ∧ RLim F D0 0 0 ∧ mapD D0 = [] := by
 refine ⟨⟨⟨fun n p _ _ h => ?_, fun _ _ _ _ => rfl, fun n _ _ => hl n, fun _ _ => rfl⟩, ⟨fun n p _ _ h => ?_, fun _ _ _ _ => rfl, fun n _ _ => hn n, fun _ _ => rfl⟩, fun n hn => ?_, fun n b hb => ?_, fun n x hx => ?_, fun x hx hd => absurd hd (ht x hx), by decide⟩, ⟨by decide, by decide, by decide, by decide, by decide, by decide, fun n hn => ?_⟩, rfl⟩
 ·rw [hl n] at h; cases h
 ·rw [hn n] at h; cases h
 ·rw [last0] at hn; cases hn
 ·cases hb
 ·cases hx
 ·exact absurd (tfN_head n) (ht _ hn)
section
variable {A : Amb} {B : Bud} {g h : Heap} {q : Hp} {k : Nat → Nat} {st : Db} {m : Bx} {D : Disk} {age c : Nat} {R : Value → Heap → Prop}
theorem StoreAt.on {h' : Heap} (S : StoreAt B g h q k st m D age c) (x : Ext h h') : StoreAt B g h' q k st m D age c := ⟨S.mem.on x, S.up, S.disk, S.lim, S.wt, S.hc⟩
theorem StoreAt.beside {h' : Heap} {X : Nat → Prop} (S : StoreAt B g h q k st m D age c) (x : Mod X h h') (hX : ∀ c, X c → k c = 0 ∧ g.size ≤ c) : StoreAt B g h' q k st m D age c := ⟨S.mem.beside x hX, S.up, S.disk, S.lim, S.wt, S.hc⟩
theorem StoreAt.more {c' : Nat} (S : StoreAt B g h q k st m D age c) (h1 : c ≤ c') (h2 : c' ≤ B.C) : StoreAt B g h q k st m D age c' := ⟨S.mem, S.up, S.disk, S.lim.mono (Nat.le_refl _) h1, S.wt, h2⟩
theorem StoreAt.free (S : StoreAt B g h q k st m D age c) {x : Nat} (hx : h.size ≤ x) : k x = 0 := Decidable.byContradiction fun hk => by
 have := (S.mem.own x hk).2; omega
theorem StoreAt.base (S : StoreAt B g h q k st m D age c) {x : Nat} (hx : x < g.size) : k x = 0 := Decidable.byContradiction fun hk => by
 have := (S.mem.own x hk).1; omega
/-- an empty store is opened -/
theorem start_ok {b : Nat} {Sb : Nat → Prop} (E : Evn g) (Bx0 : IsBox h b Sb m) (hx : Ext g h) (hSb : ∀ c, Sb c → g.size ≤ c) (hd : m.down = false) (hfu : m.fuel = -1) (hl : ∀ n, ff m (fnB nl n) = none) (hn : ∀ n, ff m (fnB nn n) = none) (ht : ∀ x, ff m x ≠ none → (bl x).head? ≠ some 116) (hA : 1 ≤ B.A) (hw : wtF m.files ≤ B.W0)
  (H1 : ∀ h' q' k' st' m' D', q'.b = b → StoreAt B g h' q' k' st' m' D' 1 0 → m'.fuel = -1 → mapS st' = [] → (∀ y, ¬ Mine y → ff m' y = ff m y) → Mod Sb h h' → (∀ c, k' c ≠ 0 → Sb c ∨ h.size ≤ c) → R (.tuple #[ptrV q'.d, .int .i64 0]) h') : HCalls A P f_lsm_Open #[ptrV b] h R := by
 obtain ⟨d1, d2, d3⟩ := disk0 hl hn ht
 refine LOpen_ok (B := B) E Bx0 hx hSb hd d1 d2 (Nat.zero_le _) hA (by omega) (fun hf => absurd hfu hf) fun h' q' k' st' m' D' e S sty mp oth md kk => ?_
 exact H1 h' q' k' st' m' D' e S (sty.calm hfu) (mp.trans d3) oth md kk
/-- the box is crashed -/
theorem crash_rec {ks : List Int} (S : StoreAt B g h q k st m D age c) : Rec (ff (crashB m ks)) age c (mapS st) ∧ wtF (crashB m ks).files ≤ B.W0 + age * B.K := by
 exact ⟨S.disk.recS S.lim _ (crash_to S.mem.box.good ks), Nat.le_trans wt_crash S.wt⟩
/-- opened behind a crash -/
theorem reopen_ok {b : Nat} {Sb : Nat → Prop} {mp : List Pr} (E : Evn g) (Bx0 : IsBox h b Sb m) (hx : Ext g h) (hSb : ∀ c, Sb c → g.size ≤ c) (hd : m.down = false) (hr : Rec (ff m) age c mp) (hc : c ≤ B.C) (hA : age + 1 ≤ B.A) (hw : wtF m.files ≤ B.W0 + age * B.K)
  (H0 : m.fuel ≠ -1 → ∀ h' d S' m', IsBox h' b S' m' → m'.down = true → Mod Sb h h' → (∀ c, S' c → Sb c ∨ h.size ≤ c) → RecS (ff m') (age + 1) c mp → (∀ y, ¬ Mine y → ff m' y = ff m y) → wtF m'.files ≤ B.W0 + (age + 1) * B.K → R (.tuple #[ptrV d, .int .i64 30]) h')
  (H1 : ∀ h' q' k' st' m' D', q'.b = b → StoreAt B g h' q' k' st' m' D' (age + 1) c → Stay m m' → mapS st' = mp → (∀ y, ¬ Mine y → ff m' y = ff m y) → Mod Sb h h' → (∀ c, k' c ≠ 0 → Sb c ∨ h.size ≤ c) → R (.tuple #[ptrV q'.d, .int .i64 0]) h') : HCalls A P f_lsm_Open #[ptrV b] h R := by
 obtain ⟨D, d1, d2, rfl⟩ := hr
 exact LOpen_ok (B := B) E Bx0 hx hSb hd d1 d2 hc hA hw H0 H1
end
/-! ### awake -/
abbrev ka : ByteArray := ⟨#[97]⟩
abbrev kb : ByteArray := ⟨#[98]⟩
abbrev v1 : ByteArray := ⟨#[49]⟩
abbrev v2 : ByteArray := ⟨#[50]⟩
def budA : Bud := ⟨1000, 0, 100, by decide, by decide, by decide⟩
def pA1 : Pr := ⟨ka, v1, false⟩
def pB2 : Pr := ⟨kb, v2, false⟩
def pAg : Pr := ⟨ka, ⟨#[]⟩, true⟩
theorem chk1 : checkL [pA1, pB2] = 0 := by decide
theorem chk2 : checkL [pAg] = 0 := by decide
theorem awake_get : getM (wrL (wrL [] [pA1, pB2]) [pAg]) kb = (v2, true) ∧ (getM (wrL (wrL [] [pA1, pB2]) [pAg]) ka).2 = false := by
 have s0 : Sorted ([] : List Pr) := List.Pairwise.nil
 have s1 : Sorted (wrL [] [pA1, pB2]) := wrL_sorted s0
 have e1 : findK kb (wrL (wrL [] [pA1, pB2]) [pAg]) = some pB2 := by
  rw [wrL_find kb s1]
  have : findK kb [pAg].reverse = none := by decide
  rw [this]
  show findK kb (wrL [] [pA1, pB2]) = _
  rw [wrL_find kb s0]
  have : findK kb [pA1, pB2].reverse = some pB2 := by decide
  rw [this]; rfl
 have e2 : findK ka (wrL (wrL [] [pA1, pB2]) [pAg]) = none := by
  rw [wrL_find ka s1]
  have : findK ka [pAg].reverse = some pAg := by decide
  rw [this]; rfl
 unfold getM
 rw [e1, e2]
 exact ⟨rfl, rfl⟩
theorem awake_ok {A : Amb} {h : Heap} {R : Value → Heap → Prop} (E : Evn h) (H : ∀ h', Ext h h' → R (.bool true) h') : HCalls A P f_wherrylaw09_awake #[] h R := by
 refine ok_wherrylaw09_awake ?_
 unfold F_wherrylaw09_awake
 refine bNew_ok fun b h1 Sb B1 x1 f1 => ⟨_, rfl, ?_⟩
 refine start_ok (B := budA) E B1 x1 f1 rfl rfl (fun n => rfl) (fun n => rfl) (fun x hx => absurd rfl hx) (by decide) (by decide) fun h2 q2 k2 st2 m2 D2 eb2 S2 fu2 mp2 _ md2 kk2 => ⟨_, _, rfl, ?_⟩
 have x02 : Ext h h2 := x1.then (md2.weak fun c _ hc => .inr (f1 c hc))
 refine New.mk fun h3 _ hb3 x3 s3 => ?_
 have S3 := S2.on x3
 have v3 : View PairE h3 ⟨some ⟨h2.size, 0, none⟩, 2, 2⟩ [pA1, pB2] := (Own.lit (E := PairE) (l := [pA1, pB2]) hb3 rfl (by decide)).view
 refine Write_ok (B := budA) (s := ⟨some ⟨h2.size, 0, none⟩, 2, 2⟩) E S3 (by decide) v3 (fun _ b hb => by
  have e : h2.size = b := by simpa [Sl.blk] using hb
  subst e; exact ⟨by omega, S2.free (Nat.le_refl _)⟩) (fun _ => by decide) (fun hne => absurd chk1 hne) (fun _ h' m' fe => absurd fu2 fe.fuel) (fun _ h' m' fe => absurd fu2 fe.fuel) fun _ h4 q4 k4 st4 m4 D4 ed4 eb4 S4 sty4 wr4 _ md4 kk4 => ⟨_, rfl, ?_⟩
 have mp4 := wr4.map
 rw [mp2] at mp4
 rw [← ed4]
 refine Flush_ok (B := budA) E S4 (by decide) (fun h' m' fe => absurd (sty4.calm fu2) fe.fuel) fun h5 q5 k5 st5 m5 D5 ed5 eb5 S5 sty5 _ mp5 _ _ md5 kk5 => ⟨_, rfl, ?_⟩
 refine New.mk fun h6 _ hb6 x6 s6 => ?_
 have S6 := S5.on x6
 have v6 : View PairE h6 ⟨some ⟨h5.size, 0, none⟩, 1, 1⟩ [pAg] := (Own.lit (E := PairE) (l := [pAg]) hb6 rfl (by decide)).view
 have fu5 := sty5.calm (sty4.calm fu2)
 rw [← ed5]
 refine Write_ok (B := budA) (s := ⟨some ⟨h5.size, 0, none⟩, 1, 1⟩) E S6 (by decide) v6 (fun _ b hb => by
  have e : h5.size = b := by simpa [Sl.blk] using hb
  subst e; exact ⟨by omega, S5.free (Nat.le_refl _)⟩) (fun _ => by decide) (fun hne => absurd chk2 hne) (fun _ h' m' fe => absurd fu5 fe.fuel) (fun _ h' m' fe => absurd fu5 fe.fuel) fun _ h7 q7 k7 st7 m7 D7 ed7 eb7 S7 sty7 wr7 _ md7 kk7 => ⟨_, rfl, ?_⟩
 have mp7 := wr7.map
 rw [mp5, mp4] at mp7
 have ebb : b = q7.b := by rw [eb7, eb5, eb4, eb2]
 rw [ebb]
 refine bCrash_ok (keep := ⟨none, 0, 0⟩) (ks := []) S7.mem.box View.nil fun b8 h8 S8 _ B8 md8 f8 => ⟨_, rfl, ?_⟩
 obtain ⟨rc8, wt8⟩ := crash_rec (ks := []) S7
 have x8 : Ext h h8 := S7.mem.ext.then (md8.weak fun c _ hc => .inr (S7.mem.mine (by rw [S7.mem.kb c hc]; decide)))
 refine reopen_ok (B := budA) E B8 x8 (fun c hc => by have := f8 c hc; have := S7.mem.ext.size; omega) rfl rc8 S7.hc (by decide) wt8 (fun hf => absurd rfl hf) fun h9 q9 k9 st9 m9 D9 eb9 S9 sty9 mp9 _ md9 kk9 => ⟨_, _, rfl, ?_⟩
 rw [mp7] at mp9
 obtain ⟨l1, l2, l3, l4⟩ := S9.frlen
 obtain ⟨a1, a2⟩ := awake_get
 refine Get_ok S9.mem l2 (by decide) fun h10 x10 => ⟨_, _, _, rfl, ?_⟩
 refine Get_ok (S9.mem.on x10) l2 (by decide) fun h11 x11 => ⟨_, _, _, rfl, ?_⟩
 rw [mp9, a1, a2]
 have x9 : Ext h h11 := ((S9.mem.on x10).on x11).ext
 refine PIf.yes rfl (PIf.yes rfl (PIf.yes rfl (PIf.yes rfl (PIf.yes rfl (PIf.yes rfl (PIf.yes rfl (PIf.yes ?_ (PIf.yes rfl (PIf.yes rfl ?_)))))))))
 ·show sEq v2 v2 = true
  rw [sEq_iff]; exact decide_eq_true rfl
 ·refine Check_ok (s := ⟨none, 0, 0⟩) (l := []) View.nil fun h12 x12 => ⟨_, rfl, ?_⟩
  exact H h12 (x9.trans x12)
end Go.Lf.G

