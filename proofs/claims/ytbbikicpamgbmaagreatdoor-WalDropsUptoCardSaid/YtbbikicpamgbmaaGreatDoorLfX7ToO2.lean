/-
  The law WalTimes (chapter 4) over its formula.
-/
import Derived.Test.YtbbikicpamgbmaaGreatDoorLfU15ToX6
import Derived.Test.YtbbikicpamgbmaaGreatDoorLfU10ToS1
import Derived.Test.YtbbikicpamgbmaaGreatDoorCards
import Derived.Test.YtbbikicpamgbmaaGreatDoorTie
import Derived.Deep.DeepHandedRow
import Derived.Lib.LaidTab
import Derived.Stop.LaidErr
set_option maxRecDepth 100000
set_option linter.unusedVariables false
set_option linter.unusedSimpArgs false
namespace Go.Lf.G
open Go

abbrev sTorn : ByteArray := ⟨#[116, 111, 114, 110, 44, 32, 97, 110, 100, 32, 108, 111, 115, 116]⟩
def ws (r : List ByteArray) : Nat := (r.map (·.size + 1)).sum
def wss (ts : List (List ByteArray)) : Nat := (ts.map ws).sum
theorem ws_snoc (r : List ByteArray) (w : ByteArray) : ws (r ++ [w]) = ws r + (w.size + 1) := by simp [ws]
theorem ws_take (r : List ByteArray) (j : Nat) : ws (r.take j) ≤ ws r := by
  have : ws r = ws (r.take j) + ws (r.drop j) := by
    conv => lhs; rw [← List.take_append_drop j r]
    unfold ws; rw [List.map_append, List.sum_append]
  omega
theorem wss_snoc (ts : List (List ByteArray)) (r : List ByteArray) : wss (ts ++ [r]) = wss ts + ws r := by simp [wss]
theorem wss_take (ts : List (List ByteArray)) (j : Nat) : wss (ts.take j) ≤ wss ts := by
  have : wss ts = wss (ts.take j) + wss (ts.drop j) := by
    conv => lhs; rw [← List.take_append_drop j ts]
    unfold wss; rw [List.map_append, List.sum_append]
  omega
theorem take_succ {α : Type} {l : List α} {i : Nat} {x : α} (h : l[i]? = some x) : l.take (i + 1) = l.take i ++ [x] := by rw [List.take_add_one, h]; rfl
theorem flat_times {ts : List (List ByteArray)} : ∀ i, i ≤ ts.length → (List.range' 1 i).flatMap (fun n => (ts[n - 1]?).getD []) = (ts.take i).flatten
  | 0, _ => rfl
  | i + 1, h => by
    have hg : ts[i]? = some ts[i] := List.getElem?_eq_getElem h
    rw [List.range'_concat, List.flatMap_append, flat_times i (by omega), take_succ hg, List.flatten_append]
    have e : 1 + 1 * i - 1 = i := by omega
    simp [e, hg]
/-- the segments 1 to i are of the times before -/
structure Tms (m : Bx) (ts : List (List ByteArray)) (i : Nat) : Prop where
  there : ∀ n r, 1 ≤ n → n ≤ i → ts[n - 1]? = some r → ∃ s, ff m (fnB nx n) = some (s, bs0) ∧ s ≠ bs0 ∧ Scan (bl s) (r.map bl)
  none : ∀ x, (∀ n : Nat, 1 ≤ n → n ≤ i → x ≠ fnB nx n) → ff m x = none
theorem Tms.firm {m : Bx} {ts : List (List ByteArray)} {i : Nat} (T : Tms m ts i) (hi : i ≤ ts.length) {x : ByteArray} {p : ByteArray × ByteArray} (h : ff m x = some p) : p.2 = bs0 ∧ p.1 ≠ bs0 := by
  by_cases hx : ∃ n, 1 ≤ n ∧ n ≤ i ∧ x = fnB nx n
  · obtain ⟨n, n1, n2, rfl⟩ := hx
    obtain ⟨s, h1, h2, _⟩ := T.there n ts[n - 1] n1 n2 (List.getElem?_eq_getElem (by omega))
    rw [h1] at h
    obtain rfl := Option.some.inj h
    exact ⟨rfl, h2⟩
  · rw [T.none x fun n n1 n2 e => hx ⟨n, n1, n2, e⟩] at h
    cases h
theorem bl_extract (s : ByteArray) (k : Nat) : bl (s.extract 0 k) = (bl s).take k := by
  simp [bl, ByteArray.data_extract]
theorem size_pos_ne {s : ByteArray} (h : 0 < s.size) : s ≠ bs0 := fun e => by rw [e] at h; exact absurd h (by decide)

theorem opened_times {A : Amb} {h hh : Heap} {b : Nat} {S : Nat → Prop} {m : Bx} {ts : List (List ByteArray)} {i : Nat} {R : Value → Heap → Prop} (E : Evn h) (B : IsBox hh b S m) (x0 : Ext h hh) (fr : ∀ c, S c → h.size ≤ c) (c : Calm m) (hw : wtF m.files ≤ 1073741824)
    (T : Tms m ts i) (hi : i ≤ ts.length) (h12 : i ≤ 12)
    (H : ∀ h' lg sl, Lw h lg b nx h' S m (i + 1) false → Ext hh h' → hh.size ≤ lg → View StrE h' sl (ts.take i).flatten → R (.tuple #[ptrV lg, .slice sl.p sl.len sl.cap, .int .i64 0]) h') : HCalls A P f_wal_Open #[ptrV b, .string nx] hh R := by
  refine openR_ok (a := 1) (k := i) (Rc := fun n => (ts[n - 1]?).getD []) E B x0 fr c hw (by decide) (by omega) (fun n n1 n9 => ?_) (fun n n1 n2 => ?_) fun h' lg sl W x hlg v _ => ?_
  · by_cases hn : n ≤ i
    · obtain ⟨s, h1, _⟩ := T.there n ts[n - 1] n1 hn (List.getElem?_eq_getElem (by omega))
      rw [h1]; simp; omega
    · rw [T.none _ fun k k1 k2 e => by have := fnB_inj e; omega]; simp; omega
  · have hg : ts[n - 1]? = some ts[n - 1] := List.getElem?_eq_getElem (by omega)
    obtain ⟨s, h1, _, h3⟩ := T.there n ts[n - 1] n1 (by omega) hg
    refine ⟨_, h1, ?_⟩
    rw [hg, app_nil]
    exact h3
  · rw [flat_times i hi] at v
    have e : (if i = 0 then 1 else 1 + i) = i + 1 := by split <;> omega
    rw [e] at W
    exact H h' lg sl W x hlg v

theorem WalTimes_ok {A : Amb} {h : Heap} {times keep : Sl} {sls : List Sl} {ts : List (List ByteArray)} {ks : List Int} {R : Value → Heap → Prop} (E : Evn h) (v : View SlE h times sls) (hlen : sls.length = ts.length) (hv : ∀ (i : Nat) s r, sls[i]? = some s → ts[i]? = some r → View StrE h s r) (vk : View IntE h keep ks) (hk : ks.length ≤ 1048576)
    (hw : wss ts ≤ 1048576) (hs : ∀ r ∈ ts, ∀ x ∈ r, x.size ≤ 1048576) (hrl : ∀ r ∈ ts, r.length ≤ 1048576) (hfl : ts.flatten.length ≤ 1048576)
    (H : ∀ h', Ext h h' → R (.bool true) h') : HCalls A P f_wherrylaw04_WalTimes #[.slice times.p times.len times.cap, .slice keep.p keep.len keep.cap] h R := by
  refine ok_wherrylaw04_WalTimes ?_
  unfold F_wherrylaw04_WalTimes
  refine awake04_ok E fun h1 x1 => ⟨_, rfl, PIf.no rfl ?_⟩
  rw [v.len, hlen]
  refine PIf.intro (fun q => H h1 x1) (fun q => ?_)
  have h12 : ts.length ≤ 12 := by simp at q; omega
  refine bNew_ok fun b h2 S B x2 hS => ⟨_, rfl, ?_⟩
  have x12 := x1.trans x2
  have hx1 := x1.size
  refine Loop.rule (fun mm x hh => ∃ (i b : Nat) (S : Nat → Prop) (m : Bx) (all : Sl), x = (some ⟨b, 0, none⟩, all, (i : Int), ()) ∧ IsBox hh b S m ∧ Ext h hh ∧ (∀ c, S c → h.size ≤ c) ∧ Calm m ∧ Tms m ts i ∧ wtF m.files ≤ 15 * wss (ts.take i) + 60 * i ∧ Own StrE t_string hh all (ts.take i).flatten ∧ (∀ c, all.blk = some c → h.size ≤ c ∧ ¬ S c) ∧ i ≤ ts.length ∧ mm = ts.length - i) ?_
    ⟨0, b, S, newB, ⟨none, 0, 0⟩, rfl, B, x12, fun c hc => by have := hS c hc; omega, calm_new, ⟨fun n r h1 h2 => by omega, fun x _ => rfl⟩, by simp [newB, wtF], Own.nil, fun c hc => by simp [Sl.blk] at hc, Nat.zero_le _, rfl⟩
  clear q x12 hx1 B hS x2 x1 S b
  rintro K mm _ hh ⟨i, b, S, m, all, rfl, B, xh, fr, c, T, hwt, o, fa, hi, rfl⟩ hK
  have hwi := wss_take ts i
  have hfi : ((ts.take i).flatten).length ≤ 1048576 := by
    refine Nat.le_trans ?_ hfl
    conv => rhs; rw [← List.take_append_drop i ts, List.flatten_append]
    simp
  refine PIf.intro (fun hq => ?_) (fun hq => ?_)
  · have hil : i < ts.length := by simpa using hq
    have hti : ts[i]? = some ts[i] := List.getElem?_eq_getElem hil
    have hsi : sls[i]? = some sls[i] := List.getElem?_eq_getElem (by omega)
    have vr0 := hv i _ _ hsi hti
    have hrm : ts[i] ∈ ts := List.getElem_mem hil
    have hrs := hs _ hrm
    have hrl' := hrl _ hrm
    have htk := take_succ hti
    have hwi1 := wss_take ts (i + 1)
    have hfl1 : ((ts.take (i + 1)).flatten).length ≤ 1048576 := by
      refine Nat.le_trans ?_ hfl
      conv => rhs; rw [← List.take_append_drop (i + 1) ts, List.flatten_append]
      simp
    rw [htk, wss_snoc] at hwi1
    rw [htk, List.flatten_append] at hfl1
    simp only [List.flatten_cons, List.flatten_nil, List.append_nil, List.length_append] at hfl1
    generalize ts[i] = r at *
    generalize sls[i] = rs at *
    rw [← hlen, ← v.len]
    refine (v.ext xh).idx hsi fun a _ cc => ?_
    refine LoadL.mk cc.sl ?_
    refine opened_times E B xh fr c (by omega) T hi (by omega) fun h4 lg left W x4 hlg vl => ⟨_, left, _, rfl, ?_⟩
    have vr : View StrE h rs r := vr0
    rw [vr.len]
    refine Join.mk fun K1 hK1 => PIf.no rfl ?_
    refine Same_ok vl ((o.ext x4).view) (by omega) ⟨_, rfl, hK1 _ _ ?_⟩
    rw [decide_eq_true rfl]
    refine PIf.no rfl ?_
    have hb := blk_lt W.log
    have o4 := o.ext x4
    have fa4 : ∀ c, all.blk = some c → h.size ≤ c ∧ c ≠ lg ∧ ¬ S c := fun c hc => ⟨(fa c hc).1, by have := o.lt hc; omega, (fa c hc).2⟩
    have hnone : ff m (fnB nx (i + 1)) = none := T.none _ fun n n1 n2 e => by have := fnB_inj e; omega
    refine Loop.rule (fun mm x h' => ∃ (j : Nat) (S' : Nat → Prop) (m' : Bx) (al : Sl) (made : Bool), x = (al, (j : Int), ()) ∧ Lw h lg b nx h' S' m' (i + 1) made ∧ Calm m' ∧ ((ff m' (fnB nx (i + 1))).getD (bs0, bs0) = (bs0, strL (wraps ((r.take j).map bl)))) ∧ (made = true → (ff m' (fnB nx (i + 1))).isSome = true) ∧ (made = false → j = 0) ∧ (∀ x, x ≠ fnB nx (i + 1) → ff m' x = ff m x) ∧ wtF m'.files ≤ wtF m.files + 15 * ws (r.take j) ∧
        Own StrE t_string h' al ((ts.take i).flatten ++ r.take j) ∧ (∀ c, al.blk = some c → h.size ≤ c ∧ c ≠ lg ∧ ¬ S' c) ∧ j ≤ r.length ∧ mm = r.length - j) ?_
      ⟨0, S, m, all, false, rfl, W, c, by rw [hnone]; rfl, (fun h => by cases h), fun _ => rfl, fun _ _ => rfl, by simp [ws], by simpa using o4, fa4, Nat.zero_le _, rfl⟩
    rintro K2 mm _ h6 ⟨j, S6, m6, al, made, rfl, W6, c6, g6, is6, md6, oth6, wt6, o6, fa6, hj, rfl⟩ hK2
    have hwj := ws_take r j
    refine PIf.intro (fun hq2 => ?_) (fun hq2 => ?_)
    · have hjl : j < r.length := by simpa using hq2
      have hrj : r[j]? = some r[j] := List.getElem?_eq_getElem hjl
      have hws := hrs r[j] (List.getElem_mem hjl)
      have htj := take_succ hrj
      have hwj1 := ws_take r (j + 1)
      rw [htj, ws_snoc] at hwj1
      refine Join.mk fun K3 hK3 => ?_
      rw [← vr.len]
      refine (vr.ext W6.ext).idx hrj fun a1 _ cc => ?_
      refine LoadS.mk cc.str ?_
      refine W6.append E c6 (by decide) (by omega) hws (by omega) fun h8 S8 m8 W8 c8 f8 w8 md8 s8 => ⟨_, rfl, PIf.yes rfl ?_⟩
      have o8 : Own StrE t_string h8 al ((ts.take i).flatten ++ r.take j) := o6.mod md8 fun c hc hm => by
        rcases hm with hm | hm
        · exact (fa6 c hc).2.2 hm
        · exact (fa6 c hc).2.1 hm
      have fa8 : ∀ c, al.blk = some c → h.size ≤ c ∧ c ≠ lg ∧ ¬ S8 c := fun c hc => ⟨(fa6 c hc).1, (fa6 c hc).2.1, fun hs => by
        rcases s8 c hs with hm | hm
        · exact (fa6 c hc).2.2 hm
        · have := o6.lt hc; omega⟩
      have hx6 := W6.ext.size
      have hl8 : ((ts.take i).flatten ++ r.take j).length + 1 ≤ 2097152 := by rw [List.length_append, List.length_take]; omega
      refine New.append1 (E := StrE) (x := r[j]) (s := al) (l := (ts.take i).flatten ++ r.take j) rfl app_str4 o8 (by omega) (by unfold maxLen; omega) fun al' h10 o10 m10 b10 _ => ?_
      have W10 : Lw h lg b nx h10 S8 m8 (i + 1) true := by
        refine ⟨W8.box.mod m10 fun c hc hm => (fa8 c hm).2.2 hc, W8.log.mod m10 fun hm => (fa8 lg hm).2.1 rfl, W8.ext.more m10 fun c hc => (fa8 c hc).1, W8.fresh, W8.lgn⟩
      have hlt8 := fun c (hc : S8 c) => W8.box.lt hc
      have hlg8 := blk_lt W8.log
      refine hK3 _ _ ?_
      dsimp only
      rw [wrap_succ (by omega)]
      refine hK2 (r.length - (j + 1)) _ _ (by omega) ⟨j + 1, S8, m8, al', true, rfl, W10, c8, ?_, ?_, (fun h => by cases h), ?_, ?_, ?_, fun c hc => ?_, hjl, rfl⟩
      · have e : wraps ((r.take j ++ [r[j]]).map bl) = wraps ((r.take j).map bl) ++ wrapL (bl r[j]) := by
          rw [List.map_append]; unfold wraps; rw [List.flatMap_append]
          simp only [List.map_cons, List.map_nil, List.flatMap_cons, List.flatMap_nil, List.append_nil]
        rw [f8, if_pos rfl, g6, htj, e, ← strL_app]
        rfl
      · intro _; rw [f8, if_pos rfl]; rfl
      · intro x hx; rw [f8, if_neg hx, oth6 x hx]
      · rw [htj, ws_snoc]; omega
      · rw [htj, ← List.append_assoc]; exact o10
      · rcases b10 c hc with h | h
        · exact fa8 c h
        · have := W8.ext.size
          exact ⟨by omega, by omega, fun hs => by have := hlt8 c hs; omega⟩
    · have hjl : j = r.length := by simp at hq2; omega
      subst hjl
      rw [List.take_length] at g6 wt6 o6
      refine W6.sync E c6 (by decide) (by omega) is6 fun h11 m11 W11 c11 f11 w11 md11 => ⟨_, rfl, PIf.no rfl ?_⟩
      have g11 : (ff m11 (fnB nx (i + 1))).getD (bs0, bs0) = (strL (wraps (r.map bl)), bs0) := by
        rw [f11]
        cases made with
        | true =>
          rw [if_pos ⟨rfl, rfl⟩]
          obtain ⟨p, hp⟩ := Option.isSome_iff_exists.1 (is6 rfl)
          rw [hp] at g6 ⊢
          have g6 : p = (bs0, strL (wraps (r.map bl))) := g6
          rw [g6]
          simp [nil_app]
        | false =>
          have hr0 : r = [] := List.eq_nil_of_length_eq_zero (md6 rfl)
          rw [if_neg (by simp), g6, hr0]
          rfl
      have hwr := ws_take r r.length
      rw [List.take_length] at hwr
      have htsz : sTorn.size = 14 := rfl
      refine W11.append E c11 (by decide) (by omega) (by decide) (by omega) fun h12 S12 m12 W12 c12 f12 w12 md12 s12 => ⟨_, rfl, ?_⟩
      have hcur : ff m12 (fnB nx (i + 1)) = some (strL (wraps (r.map bl)), frm sTorn) := by
        rw [f12, if_pos rfl, g11]; simp [nil_app]
      have hoth : ∀ x, x ≠ fnB nx (i + 1) → ff m12 x = ff m x := fun x hx => by rw [f12, if_neg hx, f11, if_neg (fun h => hx h.1), oth6 x hx]
      obtain ⟨k0, hk0, hk1, hk5⟩ : ∃ k0 : Nat, (if ((IntKind.wrap .i64 (((r.length : Nat) : Int) + (1 : Int))) : Int) < 5 then (IntKind.wrap .i64 (((r.length : Nat) : Int) + (1 : Int))) else 5) = (k0 : Int) ∧ 1 ≤ k0 ∧ k0 ≤ 5 := by
        rw [wrap_succ (by omega)]
        split
        · exact ⟨r.length + 1, rfl, by omega, by omega⟩
        · exact ⟨5, rfl, by omega, by omega⟩
      rw [hk0]
      refine New.mk fun h13 _ hb13 x13 hs13 => ?_
      have o13 : Own IntE t_int h13 ⟨some ⟨h12.size, 0, none⟩, 1, 1⟩ [(k0 : Int)] := Own.lit (E := IntE) (l := [(k0 : Int)]) hb13 rfl (by simp [maxLen])
      have W13 := W12.on x13
      refine append_own (E := IntE) (s := ⟨some ⟨h12.size, 0, none⟩, 1, 1⟩) (src := keep) app_int4 o13 (vk.ext W13.ext) (by simp; omega) (by simp [maxLen]; omega) fun ks' h14 o14 m14 b14 _ => ?_
      have hlt12 := fun c (hc : S12 c) => W12.box.lt hc
      have hlg12 := blk_lt W12.log
      have x14 : Ext h12 h14 := x13.more m14 fun c hc => by simp [Sl.blk] at hc; omega
      have W14 := W12.on x14
      have v14 := o14.view
      rw [List.singleton_append] at v14
      dsimp only
      refine bCrash_ok (keep := ks') (ks := (k0 : Int) :: ks) W14.box v14 fun b15 h15 S15 B0 B15 md15 s15 => ⟨_, rfl, ?_⟩
      have x015 : Ext h h15 := W14.ext.more md15 fun c hc => (W14.fresh c hc).1
      have hff : ∀ x, ff (crashB m12 ((k0 : Int) :: ks)) x = (ff m12 x).bind (afterP ((k0 : Int) :: ks)) := ff_crash W14.box.good (c := fnB nx (i + 1)) fun x p hx hp => by
        rw [hoth x hx] at hp; exact (T.firm hi hp).1
      have hfz := frm_size (rec := sTorn) (by decide)
      have hTne : frm sTorn ≠ bs0 := size_pos_ne (by omega)
      have hkp : keptP ((k0 : Int) :: ks) (strL (wraps (r.map bl)), frm sTorn) = strL (wraps (r.map bl)) ++ (frm sTorn).extract 0 k0 := by
        unfold keptP
        rw [if_neg hTne]
        have e : min ((k0 : Int)).toNat (frm sTorn).size = k0 := by rw [Int.toNat_natCast]; omega
        simp only [List.getElem?_cons_zero, e]
      have hPbl : bl (strL (wraps (r.map bl)) ++ (frm sTorn).extract 0 k0) = wraps (r.map bl) ++ (wrapL (bl sTorn)).take k0 := by
        have e1 : bl (strL (wraps (r.map bl)) ++ (frm sTorn).extract 0 k0) = bl (strL (wraps (r.map bl))) ++ bl ((frm sTorn).extract 0 k0) := by
          simp [bl, ByteArray.data_append]
        rw [e1, bl_strL, bl_extract, frm, bl_strL]
      have hTl : 14 + 5 ≤ (wrapL (bl sTorn)).length := (wrapL_len (r := bl sTorn) (by decide)).1
      have hPne : strL (wraps (r.map bl)) ++ (frm sTorn).extract 0 k0 ≠ bs0 := size_pos_ne (by
        rw [← bl_size, hPbl, List.length_append, List.length_take]; omega)
      have hnew : ff (crashB m12 ((k0 : Int) :: ks)) (fnB nx (i + 1)) = some (strL (wraps (r.map bl)) ++ (frm sTorn).extract 0 k0, bs0) := by
        rw [hff, hcur, Option.bind_some, afterP, hkp, if_neg hPne]
      have hold : ∀ x, x ≠ fnB nx (i + 1) → ff (crashB m12 ((k0 : Int) :: ks)) x = ff m x := fun x hx => by
        rw [hff, hoth x hx]
        cases hp : ff m x with
        | none => rfl
        | some p =>
          obtain ⟨p1, p2⟩ := T.firm hi hp
          have e : keptP ((k0 : Int) :: ks) p = p.1 := by unfold keptP; rw [if_pos p1]
          rw [Option.bind_some, afterP, e, if_neg p2, ← p1]
      have o15 : Own StrE t_string h15 al ((ts.take i).flatten ++ r) := by
        have h1 : Own StrE t_string h11 al ((ts.take i).flatten ++ r) := o6.mod md11 fun c hc hm => (fa6 c hc).2.2 hm
        have hl6 := fun c (hc : al.blk = some c) => o6.lt hc
        have h2 : Own StrE t_string h12 al ((ts.take i).flatten ++ r) := h1.mod md12 fun c hc hm => by
          rcases hm with hm | hm
          · exact (fa6 c hc).2.2 hm
          · exact (fa6 c hc).2.1 hm
        refine (h2.ext x14).mod md15 fun c hc hm => ?_
        rcases s12 c hm with hm | hm
        · exact (fa6 c hc).2.2 hm
        · have := h1.lt hc; omega
      have hwc := wt_crash (m := m12) (keep := (k0 : Int) :: ks)
      rw [wrap_succ (by omega)]
      refine hK (ts.length - (i + 1)) _ _ (by omega) ⟨i + 1, b15, S15, _, al, rfl, B15, x015, fun c hc => ?_, calm_crash _ _, ⟨fun n r' n1 n2 hr' => ?_, fun x hx => ?_⟩, ?_, ?_, fun c hc => ⟨(fa6 c hc).1, fun hs => ?_⟩, hil, rfl⟩
      · have := s15 c hc; have := W14.ext.size; omega
      · by_cases hn : n = i + 1
        · subst hn
          have e : i + 1 - 1 = i := by omega
          rw [e, hti] at hr'
          obtain rfl := Option.some.inj hr'
          refine ⟨_, hnew, hPne, ?_⟩
          rw [hPbl]
          refine scan_wraps (fun y hy => ?_) (next_torn (by decide) (by omega))
          obtain ⟨z, hz, rfl⟩ := List.mem_map.1 hy
          rw [bl_size]; exact hrs z hz
        · rw [hold _ (fun e => hn (fnB_inj e))]
          exact T.there n r' n1 (by omega) hr'
      · rw [hold x (hx (i + 1) (by omega) (by omega))]
        exact T.none x fun n n1 n2 => hx n n1 (by omega)
      · have w12' : wtF m12.files ≤ wtF m11.files + 14 + 15 := w12
        rw [htk, wss_snoc]
        omega
      · rw [htk, List.flatten_append]
        simpa using o15
      · have h1 := s15 c hs
        have h2 := o6.lt hc
        have h3 := md11.size
        have h4 := md12.size
        have h5 := x14.size
        omega
  · have hil : i = ts.length := by simp at hq; omega
    subst hil
    refine opened_times E B xh fr c (by omega) T (Nat.le_refl _) h12 fun h17 lg left W x17 _ vl => ⟨_, left, _, rfl, PIf.yes rfl ?_⟩
    refine Same_ok vl ((o.ext x17).view) (by omega) ⟨_, rfl, ?_⟩
    rw [decide_eq_true rfl]
    exact H h17 W.ext
end Go.Lf.G

/-
  The law WalParts (chapter 4) over its formula.
-/
set_option maxRecDepth 100000
set_option linter.unusedVariables false
set_option linter.unusedSimpArgs false
namespace Go.Lf.G
open Go

abbrev wr (l : List ByteArray) : ByteArray := strL (wraps (l.map bl))
theorem wr_snoc (l : List ByteArray) (w : ByteArray) : wr (l ++ [w]) = wr l ++ frm w := by
  have e : wraps ((l ++ [w]).map bl) = wraps (l.map bl) ++ wrapL (bl w) := by
    rw [List.map_append]; unfold wraps; rw [List.flatMap_append]
    simp only [List.map_cons, List.map_nil, List.flatMap_cons, List.flatMap_nil, List.append_nil]
  show strL _ = strL _ ++ strL _
  rw [e, ← strL_app]
theorem wr_nil : wr [] = bs0 := rfl
/-- N records were added; q segments are full; of the next one t records are firm -/
structure Pt (m : Bx) (recs : List ByteArray) (N q t fm : Nat) : Prop where
  lo : 3 * q ≤ N
  hi : N ≤ 3 * q + 3
  le : N ≤ recs.length
  ft : fm ≤ 3 * q + t
  tl : t ≤ N - 3 * q
  full : ∀ k, 1 ≤ k → k ≤ q → ff m (fnB nx k) = some (wr ((recs.drop (3 * (k - 1))).take 3), bs0)
  cur : ∃ soft, (ff m (fnB nx (q + 1))).getD (bs0, bs0) = (wr (((recs.take N).drop (3 * q)).take t), soft) ∧ wr (((recs.take N).drop (3 * q)).take t) ++ soft = wr ((recs.take N).drop (3 * q))
  none : ∀ x, (∀ k : Nat, 1 ≤ k → k ≤ q + 1 → x ≠ fnB nx k) → ff m x = none
theorem Pt.congr {m m' : Bx} {recs : List ByteArray} {N q t fm : Nat} (p : Pt m recs N q t fm) (h : ∀ x, ff m' x = ff m x) : Pt m' recs N q t fm :=
  ⟨p.lo, p.hi, p.le, p.ft, p.tl, fun k k1 k2 => by rw [h]; exact p.full k k1 k2, by rw [h]; exact p.cur, fun x hx => by rw [h]; exact p.none x hx⟩
theorem drop_snoc {recs : List ByteArray} {N a : Nat} {w : ByteArray} (hw : recs[N]? = some w) (ha : a ≤ N) : (recs.take (N + 1)).drop a = (recs.take N).drop a ++ [w] := by
  have hN : N < recs.length := (List.getElem?_eq_some_iff.1 hw).1
  rw [take_succ hw, List.drop_append_of_le_length (by rw [List.length_take]; omega)]
theorem Pt.append {m m' : Bx} {recs : List ByteArray} {N q t fm : Nat} {w : ByteArray} (p : Pt m recs N q t fm) (hw : recs[N]? = some w) (hN : N < 3 * q + 3)
    (h : ∀ x, ff m' x = if x = fnB nx (q + 1) then some (((ff m (fnB nx (q + 1))).getD (bs0, bs0)).1, ((ff m (fnB nx (q + 1))).getD (bs0, bs0)).2 ++ frm w) else ff m x) : Pt m' recs (N + 1) q t fm := by
  have hNl : N < recs.length := (List.getElem?_eq_some_iff.1 hw).1
  have hlo := p.lo
  have hlen : ((recs.take N).drop (3 * q)).length = N - 3 * q := by rw [List.length_drop, List.length_take]; omega
  have htl := p.tl
  obtain ⟨soft, c1, c2⟩ := p.cur
  refine ⟨by omega, by omega, hNl, p.ft, by omega, fun k k1 k2 => ?_, ⟨soft ++ frm w, ?_, ?_⟩, fun x hx => ?_⟩
  · rw [h, if_neg (fun e => by have := fnB_inj e; omega)]
    exact p.full k k1 k2
  · rw [h, if_pos rfl, c1, drop_snoc hw hlo, List.take_append_of_le_length (by omega)]
    rfl
  · rw [drop_snoc hw hlo, List.take_append_of_le_length (by omega), wr_snoc, ← ByteArray.append_assoc, c2]
  · rw [h, if_neg (hx (q + 1) (by omega) (by omega))]
    exact p.none x hx
theorem Pt.sync {m m' : Bx} {recs : List ByteArray} {N q t fm f2 : Nat} {v : ByteArray × ByteArray} (p : Pt m recs N q t fm) (hv : ff m (fnB nx (q + 1)) = some v) (hf : f2 ≤ N)
    (h : ∀ x, ff m' x = if x = fnB nx (q + 1) then some (v.1 ++ v.2, bs0) else ff m x) : Pt m' recs N q (N - 3 * q) f2 := by
  have hlo := p.lo
  have hle := p.le
  have hlen : ((recs.take N).drop (3 * q)).length = N - 3 * q := by rw [List.length_drop, List.length_take]; omega
  obtain ⟨soft, c1, c2⟩ := p.cur
  rw [hv] at c1
  have c1 : v = _ := c1
  refine ⟨hlo, p.hi, hle, by omega, Nat.le_refl _, fun k k1 k2 => ?_, ⟨bs0, ?_, ?_⟩, fun x hx => ?_⟩
  · rw [h, if_neg (fun e => by have := fnB_inj e; omega)]
    exact p.full k k1 k2
  · rw [h, if_pos rfl, List.take_of_length_le (by omega), c1]
    simp only [Option.getD_some]
    rw [c2]
  · rw [List.take_of_length_le (by omega), app_nil]
  · rw [h, if_neg (hx (q + 1) (by omega) (by omega))]
    exact p.none x hx
theorem Pt.next {m : Bx} {recs : List ByteArray} {N q fm : Nat} (p : Pt m recs N q 3 fm) (hN : N = 3 * q + 3) (hs : (ff m (fnB nx (q + 1))).isSome = true) (hb : ((ff m (fnB nx (q + 1))).getD (bs0, bs0)).2 = bs0) : Pt m recs N (q + 1) 0 N := by
  obtain ⟨soft, c1, c2⟩ := p.cur
  have hle := p.le
  have hlen : ((recs.take N).drop (3 * q)).length = 3 := by rw [List.length_drop, List.length_take]; omega
  have hd : ff m (fnB nx (q + 2)) = Option.none := p.none _ fun k k1 k2 e => by have := fnB_inj e; omega
  refine ⟨by omega, by omega, hle, by omega, Nat.zero_le _, fun k k1 k2 => ?_, ⟨bs0, ?_, ?_⟩, fun x hx => p.none x fun k k1 k2 => hx k k1 (by omega)⟩
  · by_cases hk : k ≤ q
    · exact p.full k k1 hk
    · have : k = q + 1 := by omega
      subst this
      obtain ⟨v, hv⟩ := Option.isSome_iff_exists.1 hs
      rw [hv] at c1 hb
      have c1 : v = _ := c1
      have hb : v.2 = bs0 := hb
      rw [List.take_of_length_le (by omega)] at c1 c2
      rw [hv, c1]
      have e1 : soft = bs0 := by rw [c1] at hb; exact hb
      have e2 : q + 1 - 1 = q := by omega
      have e3 : (recs.take N).drop (3 * q) = (recs.drop (3 * q)).take 3 := by rw [List.drop_take, hN]; congr 1; omega
      rw [e1, e2, e3]
  · rw [hd]; simp [wr_nil]
  · have : (recs.take N).drop (3 * (q + 1)) = [] := List.drop_eq_nil_of_le (by rw [List.length_take]; omega)
    rw [this]; simp [wr_nil, app_nil]

/-! ### a box that does not go on -/
theorem not_goes {m : Bx} (g : ¬ Goes m) : m.down = true ∨ (m.down = false ∧ m.fuel = 0) := by
  cases hd : m.down with
  | true => exact .inl rfl
  | false => exact .inr ⟨rfl, Decidable.byContradiction fun h => g ⟨hd, h⟩⟩
theorem append_stop {m : Bx} (g : ¬ Goes m) {k d : ByteArray} (hk : badName k = false) : (appendB m k d).1 ≠ 0 ∧ ∀ x, ff (appendB m k d).2 x = ff m x := by
  unfold appendB
  rcases not_goes g with h | ⟨h1, h2⟩
  · rw [if_pos h]; exact ⟨by simp, fun _ => rfl⟩
  · rw [if_neg (by simp [h1]), if_neg (by simp [hk]), if_pos h2]; exact ⟨by simp, fun _ => rfl⟩
theorem sync_stop {m : Bx} (g : ¬ Goes m) {k : ByteArray} (hk : (ff m k).isSome = true) : (syncB m k).1 ≠ 0 ∧ ∀ x, ff (syncB m k).2 x = ff m x := by
  unfold syncB
  rcases not_goes g with h | ⟨h1, h2⟩
  · rw [if_pos h]; exact ⟨by simp, fun _ => rfl⟩
  · have hf : (findF k m.files).isNone = false := by
      rw [← ff_some] at hk
      cases hf : findF k m.files with
      | none => rw [hf] at hk; cases hk
      | some f => rfl
    rw [if_neg (by simp [h1]), if_neg (by simp [hf]), if_pos h2]; exact ⟨by simp, fun _ => rfl⟩

theorem flat3 {recs : List ByteArray} : ∀ q, 3 * q ≤ recs.length → (List.range' 1 q).flatMap (fun k => (recs.drop (3 * (k - 1))).take 3) = recs.take (3 * q)
  | 0, _ => by simp
  | q + 1, h => by
    rw [List.range'_concat, List.flatMap_append, flat3 q (by omega)]
    have e : 1 + 1 * q - 1 = q := by omega
    rw [List.flatMap_singleton, e]
    have h2 : recs.take (3 * (q + 1)) = recs.take (3 * q) ++ (recs.drop (3 * q)).take 3 := by
      rw [show 3 * (q + 1) = 3 * q + 3 by omega, List.take_add]
    exact h2.symm
theorem wr_ne {l : List ByteArray} (h : l ≠ []) (hs : ∀ x ∈ l, x.size ≤ 1048576) : wr l ≠ bs0 := by
  cases l with
  | nil => exact absurd rfl h
  | cons x l =>
    refine size_pos_ne ?_
    have := wrapL_len (r := bl x) (by rw [bl_size]; exact hs x (by simp))
    have e : (wr (x :: l)).size = (wrapL (bl x)).length + (wraps (l.map bl)).length := by
      show (strL _).size = _
      rw [strL_size]
      simp [wraps]
    omega
theorem scan_wr {l : List ByteArray} (hs : ∀ x ∈ l, x.size ≤ 1048576) : Scan (bl (wr l)) (l.map bl) := by
  have := scan_wraps (rs := l.map bl) (fun r hr => by obtain ⟨x, hx, rfl⟩ := List.mem_map.1 hr; rw [bl_size]; exact hs x hx) (t := []) next_nil
  rw [List.append_nil] at this
  rw [wr, bl_strL]
  exact this

theorem flat_congr {α β : Type} {f g : α → List β} : ∀ {l : List α}, (∀ x ∈ l, f x = g x) → l.flatMap f = l.flatMap g
  | [], _ => rfl
  | x :: l, h => by rw [List.flatMap_cons, List.flatMap_cons, h x (by simp), flat_congr fun y hy => h y (List.mem_cons_of_mem _ hy)]
/-- behind a crash: the segments, and how many records there are -/
theorem Pt.crash {m : Bx} {recs : List ByteArray} {N q t fm : Nat} (p : Pt m recs N q t fm) (g : GoodB m) (hs : ∀ x ∈ recs, x.size ≤ 1048576) (ks : List Int) :
    ∃ (k j : Nat) (Rc : Nat → List ByteArray), k ≤ q + 1 ∧ fm ≤ j ∧ j ≤ recs.length ∧ (∀ n, 1 ≤ n → n ≤ 99999999 → ((ff (crashB m ks) (fnB nx n)).isSome = true ↔ 1 ≤ n ∧ n < 1 + k)) ∧ (∀ n, 1 ≤ n → n < 1 + k → ∃ v, ff (crashB m ks) (fnB nx n) = some v ∧ Scan (bl (v.1 ++ v.2)) ((Rc n).map bl)) ∧ (List.range' 1 k).flatMap Rc = recs.take j := by
  have hlo := p.lo
  have hhi := p.hi
  have hle := p.le
  have htl := p.tl
  have hft := p.ft
  have hfirm : ∀ x v, x ≠ fnB nx (q + 1) → ff m x = some v → v.2 = bs0 := fun x v hx hv => by
    by_cases he : ∃ k, 1 ≤ k ∧ k ≤ q + 1 ∧ x = fnB nx k
    · obtain ⟨k, k1, k2, rfl⟩ := he
      have : k ≤ q := by
        rcases Nat.lt_or_ge k (q + 1) with h | h
        · omega
        · exact absurd (by rw [show k = q + 1 by omega]) hx
      rw [p.full k k1 this] at hv
      rw [← Option.some.inj hv]
    · rw [p.none x fun k k1 k2 e => he ⟨k, k1, k2, e⟩] at hv; cases hv
  have hff := fun x => ff_crash g (ks := ks) hfirm x
  have hseg : ∀ k, 1 ≤ k → k ≤ q → ((recs.drop (3 * (k - 1))).take 3) ≠ [] := fun k k1 k2 e => by
    have := congrArg List.length e
    rw [List.length_take, List.length_drop, List.length_nil] at this
    omega
  have hsegs : ∀ k, ∀ x ∈ ((recs.drop (3 * (k - 1))).take 3), x.size ≤ 1048576 := fun k x hx => hs x (List.mem_of_mem_drop (List.mem_of_mem_take hx))
  have hfull : ∀ k, 1 ≤ k → k ≤ q → ff (crashB m ks) (fnB nx k) = some (wr ((recs.drop (3 * (k - 1))).take 3), bs0) := fun k k1 k2 => by
    rw [hff, p.full k k1 k2, Option.bind_some, afterP]
    have e : keptP ks (wr ((recs.drop (3 * (k - 1))).take 3), bs0) = wr ((recs.drop (3 * (k - 1))).take 3) := by unfold keptP; rw [if_pos rfl]
    rw [e, if_neg (wr_ne (hseg k k1 k2) (hsegs k))]
  have hnone : ∀ n, q + 1 < n → ff (crashB m ks) (fnB nx n) = Option.none := fun n hn => by
    rw [hff, p.none _ fun k k1 k2 e => by have := fnB_inj e; omega]; rfl
  -- the segment at hand
  generalize hcs : (recs.take N).drop (3 * q) = cs at *
  have hcsl : cs.length = N - 3 * q := by rw [← hcs, List.length_drop, List.length_take]; omega
  have hcss : ∀ x ∈ cs, x.size ≤ 1048576 := fun x hx => hs x (by rw [← hcs] at hx; exact List.mem_of_mem_take (List.mem_of_mem_drop hx))
  obtain ⟨soft, c1, c2⟩ := p.cur
  rw [hcs] at c1 c2
  obtain ⟨n, hn1, hn2⟩ : ∃ n, ff (crashB m ks) (fnB nx (q + 1)) = (if (wraps (cs.map bl)).take n = [] then Option.none else some (strL ((wraps (cs.map bl)).take n), bs0)) ∧ (wraps ((cs.take t).map bl)).length ≤ n := by
    have hbl : wraps (cs.map bl) = wraps ((cs.take t).map bl) ++ bl soft := by
      have := congrArg bl c2
      rw [wr, wr, bl_strL] at this
      rw [← this]
      simp [bl, ByteArray.data_append, strL]
    have fin : ∀ n s, (wraps (cs.map bl)).take n = bl s → (if s = bs0 then (Option.none : Option (ByteArray × ByteArray)) else some (s, bs0)) = if (wraps (cs.map bl)).take n = [] then Option.none else some (strL ((wraps (cs.map bl)).take n), bs0) := fun n s e => by
      rw [e, strL_bl]
      by_cases h0 : s = bs0
      · rw [if_pos h0, if_pos (by rw [h0])]
      · rw [if_neg h0, if_neg (fun h => h0 (by rw [← strL_bl s, h]; rfl))]
    cases hv : ff m (fnB nx (q + 1)) with
    | none =>
      rw [hv] at c1
      have c1 := Prod.mk.inj c1
      refine ⟨0, ?_, ?_⟩
      · rw [hff, hv]; simp
      · have h1 := congrArg bl c1.1
        rw [wr, bl_strL] at h1
        rw [← h1]; exact Nat.zero_le _
    | some v =>
      rw [hv] at c1
      have c1 : v = _ := c1
      by_cases h0 : soft = bs0
      · refine ⟨(wraps (cs.map bl)).length, ?_, by rw [hbl]; simp⟩
        rw [hff, hv, Option.bind_some, afterP]
        have e : keptP ks v = wr (cs.take t) := by rw [c1]; unfold keptP; rw [if_pos h0]
        rw [e]
        refine fin _ _ ?_
        rw [List.take_length, hbl, h0, wr, bl_strL]
        exact List.append_nil _
      · have e : keptP ks v = match ks[0]? with | some z => wr (cs.take t) ++ soft.extract 0 (min z.toNat soft.size) | Option.none => wr (cs.take t) := by rw [c1]; unfold keptP; rw [if_neg h0]; cases ks[0]? <;> rfl
        cases hz : ks[0]? with
        | none =>
          rw [hz] at e
          refine ⟨(wraps ((cs.take t).map bl)).length, ?_, Nat.le_refl _⟩
          rw [hff, hv, Option.bind_some, afterP, e]
          refine fin _ _ ?_
          rw [hbl, List.take_left, wr, bl_strL]
        | some z =>
          rw [hz] at e
          refine ⟨(wraps ((cs.take t).map bl)).length + min z.toNat soft.size, ?_, by omega⟩
          rw [hff, hv, Option.bind_some, afterP, e]
          refine fin _ _ ?_
          have e2 : bl (wr (cs.take t) ++ soft.extract 0 (min z.toNat soft.size)) = wraps ((cs.take t).map bl) ++ (bl soft).take (min z.toNat soft.size) := by
            rw [← bl_extract]
            simp [bl, ByteArray.data_append, strL]
          rw [e2, hbl, List.take_append, List.take_of_length_le (by omega)]
          congr 2
          omega
  obtain ⟨j, j1, j2, j3⟩ := scan_part (rs := cs.map bl) (fun r hr => by obtain ⟨x, hx, rfl⟩ := List.mem_map.1 hr; rw [bl_size]; exact hcss x hx) n
  rw [List.length_map] at j1
  have htj : t ≤ j := j3 t (by rw [List.length_map]; omega) (by rw [← List.map_take]; exact hn2)
  have hcsj : recs.take (3 * q) ++ cs.take j = recs.take (3 * q + j) := by
    rw [← hcs, List.take_add, List.drop_take, List.take_take]
    congr 2
    omega
  by_cases hemp : (wraps (cs.map bl)).take n = []
  · rw [if_pos hemp] at hn1
    rw [hemp] at j2
    have h0 : (cs.map bl).take j = [] := (Scan.stop next_nil).uniq j2 |>.symm
    have hj0 : j = 0 := by
      have := congrArg List.length h0
      rw [List.length_take, List.length_map, List.length_nil] at this
      omega
    subst hj0
    refine ⟨q, 3 * q, fun k => (recs.drop (3 * (k - 1))).take 3, by omega, by omega, by omega, fun n n1 n9 => ?_, fun n n1 n2 => ⟨_, hfull n n1 (by omega), ?_⟩, flat3 q (by omega)⟩
    · rcases Nat.lt_or_ge q n with h | h
      · rcases Nat.lt_or_ge (q + 1) n with h2 | h2
        · rw [hnone n h2]; simp <;> omega
        · have : n = q + 1 := by omega
          subst this
          rw [hn1]; simp <;> omega
      · rw [hfull n n1 h]; simp <;> omega
    · rw [app_nil]; exact scan_wr (hsegs n)
  · rw [if_neg hemp] at hn1
    refine ⟨q + 1, 3 * q + j, fun k => if k ≤ q then (recs.drop (3 * (k - 1))).take 3 else cs.take j, Nat.le_refl _, by omega, by omega, fun n n1 n9 => ?_, fun n n1 n2 => ?_, ?_⟩
    · rcases Nat.lt_or_ge q n with h | h
      · rcases Nat.lt_or_ge (q + 1) n with h2 | h2
        · rw [hnone n h2]; simp <;> omega
        · have : n = q + 1 := by omega
          subst this
          rw [hn1]; simp <;> omega
      · rw [hfull n n1 h]; simp <;> omega
    · rcases Nat.lt_or_ge q n with h | h
      · have : n = q + 1 := by omega
        subst this
        refine ⟨_, hn1, ?_⟩
        dsimp only
        rw [if_neg (by omega), app_nil, bl_strL, List.map_take]
        exact j2
      · refine ⟨_, hfull n n1 h, ?_⟩
        dsimp only
        rw [if_pos h, app_nil]; exact scan_wr (hsegs n)
    · rw [List.range'_concat, List.flatMap_append, List.flatMap_singleton, if_neg (by omega), ← hcsj, ← flat3 q (by omega)]
      congr 1
      refine flat_congr fun k hk => ?_
      rw [range_mem] at hk
      rw [if_pos (by omega)]
end Go.Lf.G

/-
  The law WalParts (chapter 4) over its formula: the walk.
-/
set_option maxRecDepth 100000
set_option linter.unusedVariables false
set_option linter.unusedSimpArgs false
namespace Go.Lf.G
open Go

theorem WalParts_ok {A : Amb} {h : Heap} {rs keep : Sl} {synced fuel : Int} {recs : List ByteArray} {ks : List Int} {R : Value → Heap → Prop} (E : Evn h) (v : View StrE h rs recs) (vk : View IntE h keep ks) (hfu : -9223372036854775808 ≤ fuel ∧ fuel ≤ 9223372036854775807)
    (hw : ws recs ≤ 1048576) (hl : recs.length ≤ 1048576) (hs : ∀ x ∈ recs, x.size ≤ 1048576)
    (H : ∀ h', Ext h h' → R (.bool true) h') : HCalls A P f_wherrylaw04_WalParts #[.agg #[.slice rs.p rs.len rs.cap, .int .i64 synced, .int .i64 fuel, .slice keep.p keep.len keep.cap]] h R := by
  refine ok_wherrylaw04_WalParts ?_
  unfold F_wherrylaw04_WalParts
  refine New.mk fun h1 _ hb1 x1 hs1 => ?_
  refine LoadL.mk (hget_lit hb1 rfl) (LoadI.mk (hget_lit1 hb1 rfl) (LoadI.mk (hget_lit1 hb1 rfl) (LoadL.mk (hget_lit1 hb1 rfl) ?_)))
  refine awake04_ok (E.ext x1) fun h2 x2 => ⟨_, rfl, PIf.no rfl ?_⟩
  refine bNew_ok fun b h3 S B x3 hS => ⟨_, rfl, ?_⟩
  have x03 := (x1.trans x2).trans x3
  have ka : ∀ n, 1 ≤ n → n ≤ 99999999 → ((ff newB (fnB nx n)).isSome = true ↔ 1 ≤ n ∧ n < 1 + 0) := fun n h1 _ => by rw [ff_new]; simp; omega
  refine openR_ok (h := h) (a := 1) (k := 0) (Rc := fun _ => []) E B x03 (fun c hc => by have := hS c hc; have := x1.size; have := x2.size; omega) calm_new (by simp [newB, wtF]) (by decide) (by decide) ka (fun n h1 h2 => by omega) fun h4 lg s4 W4 x4 _ v4 _ => ⟨_, s4, _, rfl, PIf.no rfl ?_⟩
  rw [if_pos rfl] at W4
  refine bFuel_ok W4.box (by split <;> omega) fun h5 B5 m5 => ⟨rfl, ?_⟩
  have W5 : Lw h lg b nx h5 S (fuelB newB (if (0 : Int) > fuel then 0 else fuel)) 1 false := W4.upd B5 (W4.log.mod m5 W4.nS) (m5.weak fun c _ hc => .inl hc) fun c hc => .inl hc
  rw [v.len]
  refine Join.mk fun K hK => ?_
  -- behind the loop, however it was left
  have fin : ∀ (hh : Heap) (S : Nat → Prop) (m : Bx) (N q t fm seg : Nat) (made : Bool), Lw h lg b nx hh S m seg made → Pt m recs N q t fm → wtF m.files ≤ 1073741824 → K ((fm : Int), ()) hh := fun hh S m N q t fm seg made W p hwt => by
    refine hK _ _ ?_
    refine bCrash_ok (keep := keep) (ks := ks) W.box (vk.ext W.ext) fun b7 h7 S7 B0 B7 md7 s7 => ⟨_, rfl, ?_⟩
    have x07 : Ext h h7 := W.ext.more md7 fun c hc => (W.fresh c hc).1
    obtain ⟨k, j, Rc, hkq, hfj, hjl, hsome, hread, hflat⟩ := p.crash W.box.good hs ks
    have hlo := p.lo
    have hle := p.le
    refine openR_ok (h := h) (a := 1) (k := k) (Rc := Rc) E B7 x07 (fun c hc => by have := s7 c hc; have := W.ext.size; omega) (calm_crash _ _) (Nat.le_trans (wt_crash (m := m) (keep := ks)) hwt) (by decide) (by omega) hsome hread fun h8 lg8 s8 W8 x8 _ v8 _ => ⟨_, s8, _, rfl, PIf.yes rfl ?_⟩
    rw [hflat] at v8
    have hl8 : s8.len = j := by rw [v8.len, List.length_take]; omega
    rw [hl8]
    have hcap := v.cap
    rw [v.len] at hcap
    refine PIf.yes (by simp; omega) (PIf.yes (by simp; omega) ⟨⟨by omega, by omega⟩, ?_⟩)
    have e1 : ((j : Int)).toNat = j := by omega
    rw [e1]
    have vs := (v.ext (x07.trans x8)).sub (lo := 0) (hi := j) (Nat.zero_le _) hjl
    rw [List.drop_zero] at vs
    have key : HCalls A P f_wherryref02_Same #[.slice s8.p s8.len s8.cap, .slice (slOff rs.p rs.cap 0 1) (j - 0) (rs.cap - 0)] h8 fun v6 h9 => ∃ t105 : Bool, v6 = .bool t105 ∧ R (.bool t105) h9 := by
      refine Same_ok (a := s8) (b := ⟨slOff rs.p rs.cap 0 1, j - 0, rs.cap - 0⟩) v8 vs (by rw [List.length_take]; omega) ⟨_, rfl, ?_⟩
      rw [decide_eq_true rfl]
      exact H h8 (x07.trans x8)
    rw [hl8] at key
    exact key
  have hr3 : ∀ i : Nat, ((i : Int).tmod (3 : Int) == (2 : Int)) = decide (i % 3 = 2) := fun i => by
    rw [Int.tmod_eq_emod_of_nonneg (by omega), Bool.eq_iff_iff]
    simp
    omega
  refine Loop.rule (fun mm x hh => ∃ (i : Nat) (S : Nat → Prop) (m : Bx) (t fm : Nat) (made : Bool), x = ((fm : Int), (i : Int), (i : Int), ()) ∧ Lw h lg b nx hh S m (i / 3 + 1) made ∧ Pt m recs i (i / 3) t fm ∧ (made = true → (ff m (fnB nx (i / 3 + 1))).isSome = true) ∧ (made = false → i % 3 = 0) ∧ wtF m.files ≤ 15 * ws (recs.take i) ∧ i ≤ recs.length ∧ mm = recs.length - i) ?_
    ⟨0, S, _, 0, 0, false, rfl, W5, ⟨by omega, by omega, by omega, by omega, by omega, fun k k1 k2 => by omega, ⟨bs0, by show ((ff newB _).getD _) = _; rw [ff_new]; rfl, by simp [wr_nil, app_nil]⟩, fun x _ => rfl⟩, (fun h => by cases h), fun _ => rfl, by show wtF newB.files ≤ _; simp [newB, wtF], Nat.zero_le _, rfl⟩
  clear W5 B5 m5 W4 v4 x4 ka B hS x03 x3 x2
  rintro K1 mm _ hh ⟨i, S, m, t, fm, made, rfl, W, p, hm1, hm0, hwt, hi, rfl⟩ hK1
  have hwi := ws_take recs i
  refine PIf.intro (fun hq => ?_) (fun hq => fin hh S m i (i / 3) t fm _ made W p (by omega))
  have hil : i < recs.length := by simpa using hq
  have hri : recs[i]? = some recs[i] := List.getElem?_eq_getElem hil
  have hws := hs recs[i] (List.getElem_mem hil)
  have hwi1 := ws_take recs (i + 1)
  have htk := take_succ hri
  rw [htk, ws_snoc] at hwi1
  refine Join.mk fun K2 hK2 => ?_
  rw [← v.len]
  refine (v.ext W.ext).idx hri fun a _ cc => ?_
  refine LoadS.mk cc.str ?_
  have hi3 : i / 3 + 1 ≤ 99999999 := by omega
  refine lAppend_ok (E.ext W.ext) W.log W.box W.nS (fun h' x => W.env E x) (by decide) (by omega) hws (by omega) fun h6 S6 B6 L6 md6 s6 => ⟨_, rfl, ?_⟩
  have hbad := fn_good (nm := nx) (by decide) hi3
  have hwt6 := wt_append W.box.good (fnB nx (i / 3 + 1)) (frm recs[i])
  have hfz := frm_size hws
  have hwt6' : wtF (appendB m (fnB nx (i / 3 + 1)) (strL (wrapL (bl recs[i])))).2.files ≤ wtF m.files + recs[i].size + 15 := Nat.le_trans hwt6 (by omega)
  have W6 := W.upd B6 L6 md6 s6
  by_cases g : Goes m
  · obtain ⟨e1, e2⟩ := ff_append g (d := frm recs[i]) hbad
    have e1 : (appendB m (fnB nx (i / 3 + 1)) (strL (wrapL (bl recs[i])))).1 = 0 := e1
    have e2 : ∀ x, ff (appendB m (fnB nx (i / 3 + 1)) (strL (wrapL (bl recs[i])))).2 x = _ := e2
    have p6 := p.append hri (by omega) e2
    have hsome6 : (ff (appendB m (fnB nx (i / 3 + 1)) (strL (wrapL (bl recs[i])))).2 (fnB nx (i / 3 + 1))).isSome = true := by rw [e2, if_pos rfl]; rfl
    rw [e1] at W6 ⊢
    rw [decide_eq_true rfl, Bool.or_true] at W6
    generalize (appendB m (fnB nx (i / 3 + 1)) (strL (wrapL (bl recs[i])))).2 = m6 at *
    refine PIf.no rfl (Join.mk fun K3 hK3 => ?_)
    rw [hr3]
    have hfm := p.ft
    have htl := p.tl
    -- behind the turn: the sync
    have last : ∀ (h' : Heap) (S' : Nat → Prop) (m' : Bx) (t' fm' : Nat) (made' : Bool), Lw h lg b nx h' S' m' ((i + 1) / 3 + 1) made' → Pt m' recs (i + 1) ((i + 1) / 3) t' fm' → (made' = true → (ff m' (fnB nx ((i + 1) / 3 + 1))).isSome = true) → (made' = false → (i + 1) % 3 = 0) → wtF m'.files ≤ wtF m.files + recs[i].size + 15 → K3 ((fm' : Int), ()) h' := fun h' S' m' t' fm' made' W' p' hm1' hm0' hwt' => by
      refine hK3 _ _ (Join.mk fun K4 hK4 => ?_)
      have again : ∀ (h'' : Heap) (m'' : Bx) (t'' fm'' : Nat), Lw h lg b nx h'' S' m'' ((i + 1) / 3 + 1) made' → Pt m'' recs (i + 1) ((i + 1) / 3) t'' fm'' → (made' = true → (ff m'' (fnB nx ((i + 1) / 3 + 1))).isSome = true) → wtF m''.files ≤ wtF m.files + recs[i].size + 15 → K2 ((fm'' : Int), ((i + 1 : Nat) : Int), ()) h'' := fun h'' m'' t'' fm'' W'' p'' hm'' hwt'' => by
        refine hK2 _ _ ?_
        dsimp only
        rw [wrap_succ (by omega)]
        refine hK1 (recs.length - (i + 1)) _ _ (by omega) ⟨i + 1, S', m'', t'', fm'', made', rfl, W'', p'', hm'', hm0', ?_, hil, rfl⟩
        rw [htk, ws_snoc]; omega
      have hwr : IntKind.wrap .i64 ((i : Int) + 1) = ((i + 1 : Nat) : Int) := wrap_succ (by omega)
      refine PIf.intro (fun q => ?_) (fun q => hK4 _ _ (PIf.no rfl ?_))
      · refine lSync_ok (E.ext W'.ext) W'.log W'.box W'.nS (by decide) (by omega) fun h15 B15 L15 md15 => ⟨_, rfl, hK4 _ _ ?_⟩
        have W15 : Lw h lg b nx h15 S' (syncL m' (fnB nx ((i + 1) / 3 + 1)) made').2 ((i + 1) / 3 + 1) made' := W'.upd B15 L15 (md15.weak fun c _ hc => .inl hc) fun c hc => .inl hc
        dsimp only
        rw [hwr]
        cases made' with
        | false =>
          have e0 := hm0' rfl
          refine PIf.yes rfl (again h15 m' t' (i + 1) W15 ?_ hm1' hwt')
          have hq := p'.lo
          refine ⟨p'.lo, p'.hi, p'.le, by omega, p'.tl, p'.full, p'.cur, p'.none⟩
        | true =>
          by_cases g' : Goes m'
          · obtain ⟨vv, hvv⟩ := Option.isSome_iff_exists.1 (hm1' rfl)
            obtain ⟨z1, z2⟩ := ff_sync g' hvv
            have z1 : (syncL m' (fnB nx ((i + 1) / 3 + 1)) true).1 = 0 := z1
            have z2 : ∀ x, ff (syncL m' (fnB nx ((i + 1) / 3 + 1)) true).2 x = _ := z2
            rw [z1]
            exact PIf.yes rfl (again h15 _ _ (i + 1) W15 (p'.sync hvv (Nat.le_refl _) z2) (fun _ => by rw [z2, if_pos rfl]; rfl) (Nat.le_trans (wt_sync W'.box.good _) hwt'))
          · obtain ⟨z1, z2⟩ := sync_stop g' (hm1' rfl)
            have z1 : (syncL m' (fnB nx ((i + 1) / 3 + 1)) true).1 ≠ 0 := z1
            have z2 : ∀ x, ff (syncL m' (fnB nx ((i + 1) / 3 + 1)) true).2 x = ff m' x := z2
            refine PIf.no (by simpa using z1) (again h15 _ _ fm' W15 (p'.congr z2) (fun _ => by rw [z2]; exact hm1' rfl) (Nat.le_trans (wt_sync W'.box.good _) hwt'))
      · dsimp only
        rw [hwr]
        exact again h' m' t' fm' W' p' hm1' hwt'
    refine PIf.intro (fun q => ?_) (fun q => ?_)
    · have q : i % 3 = 2 := by simpa using q
      have hd : (i + 1) / 3 = i / 3 + 1 := by omega
      refine lRotate_ok (E.ext W6.ext) W6.log W6.box W6.nS (by decide) (by omega) (fun hne h16 B16 L16 md16 => ⟨_, _, rfl, ?_⟩) (fun hz h16 B16 L16 md16 => ⟨_, _, rfl, ?_⟩)
      · have W16 : Lw h lg b nx h16 S6 (syncL m6 (fnB nx (i / 3 + 1)) true).2 (i / 3 + 1) true := W6.upd B16 L16 (md16.weak fun c _ hc => .inl hc) fun c hc => .inl hc
        have ng : ¬ Goes m6 := fun g' => by
          obtain ⟨vv, hvv⟩ := Option.isSome_iff_exists.1 hsome6
          exact hne (ff_sync g' hvv).1
        have z2 : ∀ x, ff (syncL m6 (fnB nx (i / 3 + 1)) true).2 x = ff m6 x := (sync_stop ng hsome6).2
        have hws6 : wtF (syncL m6 (fnB nx (i / 3 + 1)) true).2.files ≤ wtF m6.files := wt_sync W6.box.good _
        exact PIf.yes (by simpa using hne) (fin h16 S6 _ (i + 1) (i / 3) t fm _ true W16 (p6.congr z2) (by omega))
      · have W16 : Lw h lg b nx h16 S6 (syncL m6 (fnB nx (i / 3 + 1)) true).2 ((i / 3 + 1) + 1) false := W6.upd B16 L16 md16 fun c hc => .inl hc
        have gg : Goes m6 := Classical.byContradiction fun ng => (sync_stop ng hsome6).1 hz
        obtain ⟨vv, hvv⟩ := Option.isSome_iff_exists.1 hsome6
        have z2 : ∀ x, ff (syncL m6 (fnB nx (i / 3 + 1)) true).2 x = _ := (ff_sync gg hvv).2
        have hws6 : wtF (syncL m6 (fnB nx (i / 3 + 1)) true).2.files ≤ wtF m6.files := wt_sync W6.box.good _
        have p7 := p6.sync hvv (f2 := i + 1) (Nat.le_refl _) z2
        have e3 : i + 1 - 3 * (i / 3) = 3 := by omega
        rw [e3] at p7
        have p8 := p7.next (by omega) (by rw [z2, if_pos rfl]; rfl) (by rw [z2, if_pos rfl]; rfl)
        have hwr : IntKind.wrap .i64 ((i : Int) + 1) = ((i + 1 : Nat) : Int) := wrap_succ (by omega)
        dsimp only
        rw [hwr]
        exact PIf.no rfl (last h16 S6 (syncL m6 (fnB nx (i / 3 + 1)) true).2 0 (i + 1) false (by rw [hd]; exact W16) (by rw [hd]; exact p8) (fun h => by cases h) (fun _ => by omega) (by omega))
    · have q : i % 3 ≠ 2 := by simpa using q
      have hd : (i + 1) / 3 = i / 3 := by omega
      refine last h6 S6 m6 t fm true (by rw [hd]; exact W6) (by rw [hd]; exact p6) (fun _ => by rw [hd]; exact hsome6) (fun h => by cases h) hwt6'
  · obtain ⟨e1, e2⟩ := append_stop g (d := frm recs[i]) hbad
    have e1 : (appendB m (fnB nx (i / 3 + 1)) (strL (wrapL (bl recs[i])))).1 ≠ 0 := e1
    refine PIf.yes (by simpa using e1) (fin h6 S6 _ i (i / 3) t fm _ _ W6 (p.congr e2) (by omega))
end Go.Lf.G

/-
  What the rows list: the table that the numerals are read from, two errors; a world that holds what is listed; arguments opened.
-/
set_option maxRecDepth 100000
set_option linter.unusedVariables false
set_option linter.unusedSimpArgs false
namespace Go.Lf.G
open Go Go.ChangeShapes Go.WideShapes Go.ChangeAt Go.RowKit Go.Proofs.YtbbikicpamgbmaaGreatDoor

def listed : List (String × DataW Unit) := Rows.walTimesRow.laid
theorem listed_eq : ∃ (x y a b : String × DataW Unit), listed = [x, y, (tabName, Lib.tabData .u64 Lib.pow10Tab), a, b] := ⟨_, _, _, _, rfl⟩
theorem g_tab : P.globalNamed tabName = some 2 := by kernel_rfl
theorem g_type : (P.globals[2]?).map (·.type) = some t_20_uint64 := by kernel_rfl
theorem P_tab : P.underlying t_20_uint64 = some (.array 20 t_uint64) := by kernel_rfl
theorem P_u64' : P.underlying t_uint64 = some (.int .u64) := by kernel_rfl
theorem c_u64 : P.cellsOf t_uint64 = 1 := by kernel_rfl
theorem c_tab : P.cellsOf t_20_uint64 = 20 := by kernel_rfl
theorem no_handles : listed.filter (fun x => x.2.handleName?.isSome) = [] := by kernel_rfl

theorem met_of {W : World} (h : laidMetH P listed W) : laidMet P listed W := by
  unfold laidMetH at h
  rw [no_handles] at h
  exact h
theorem tab_met {W : World} (h : laidMetH P listed W) : Lib.TabIs P W tabName .u64 Lib.pow10Tab := by
  have h1 := met_of h
  obtain ⟨x, y, a, b, e⟩ := listed_eq
  rw [e] at h1
  exact Lib.tabIs_of_head (rest := [a, b]) g_tab g_type P_tab P_u64' c_u64 c_tab (laidMet.tail (laidMet.tail h1))
theorem Tab_of' {W : World} (h : laidMetH P listed W) : Tab W.heap := fun A n => by
  have h1 := tab_met h
  unfold Lib.TabIs World.var? at h1 ⊢
  exact h1

/-! ### the two errors -/
def esName : String := String.ofList [Char.ofNat 42] ++ "errors.errorString"
def rngName : String := Rows.walTimesRow.named.getD 1 (String.ofList [])
def synName : String := Rows.walTimesRow.named.getD 0 (String.ofList [])
theorem rng_eq : ∃ (x y z w : String × DataW Unit) (text : List UInt8), listed = [x, y, z, (rngName, .iface esName (.ptr (.agg [.lit (.string text)]))), w] := ⟨_, _, _, _, _, rfl⟩
theorem syn_eq : ∃ (x y z w : String × DataW Unit) (text : List UInt8), listed = [x, y, z, w, (synName, .iface esName (.ptr (.agg [.lit (.string text)])))] := ⟨_, _, _, _, _, rfl⟩
theorem g_rng : P.globalNamed rngName = some 1 := by kernel_rfl
theorem g_syn : P.globalNamed synName = some 0 := by kernel_rfl
theorem gt_rng : (P.globals[1]?).map (·.type) = some t_error := by kernel_rfl
theorem gt_syn : (P.globals[0]?).map (·.type) = some t_error := by kernel_rfl
theorem P_err : ∃ ms, P.underlying t_error = some (.interface ms) := ⟨_, Proofs.Tryz.underlying82⟩
theorem row_es (u : TypeId) (h : P.typeName? 3 u = some esName) : u = t_p_errors_errorString :=
  typeName_ptr_named (nm := "errors.errorString") (by kernel_rfl) (by kernel_rfl) (by decide) u h
theorem P_pes : P.underlying t_p_errors_errorString = some (.pointer t_errors_errorString) := by kernel_rfl
theorem P_es : ∃ f : Field, P.underlying t_errors_errorString = some (.struct #[f]) ∧ f.type = t_string ∧ f.offset = 0 := ⟨_, Proofs.Tryz.underlying161, rfl, rfl⟩
theorem c_es : P.cellsOf t_errors_errorString = 1 := by kernel_rfl
theorem err_of {n : String} {text : List UInt8} {r : List (String × DataW Unit)} {W : World} {g : Nat} (h : laidMet P ((n, .iface esName (.ptr (.agg [.lit (.string text)]))) :: r) W) (hg : P.globalNamed n = some g) (ht : (P.globals[g]?).map (·.type) = some t_error) : ErrAt W.heap g := by
  obtain ⟨ms, hi⟩ := P_err
  obtain ⟨f, hf, hft, hfo⟩ := P_es
  obtain ⟨a0, s0, hv0, _, _, _⟩ := laid_sentinel h hg ht hi row_es P_pes hf hft hfo P_str' c_es P_cs
  have h0 : W.cell? ⟨g, 0, none⟩ = some (.iface t_p_errors_errorString (.pointer (some a0))) := by simpa using World.var?_cell hg hv0 0
  refine ⟨.iface t_p_errors_errorString (.pointer (some a0)), ?_, .inr ⟨_, _, rfl⟩⟩
  unfold hget
  unfold World.cell? at h0
  exact h0
theorem Tab_of {W : World} (h : laidMetH P listed W) : Evn W.heap := by
  refine ⟨Tab_of' h, ?_, ?_⟩
  · have h1 := met_of h
    obtain ⟨x, y, z, w, t, e⟩ := syn_eq
    rw [e] at h1
    exact err_of (laidMet.tail (laidMet.tail (laidMet.tail (laidMet.tail h1)))) g_syn gt_syn
  · have h1 := met_of h
    obtain ⟨x, y, z, w, t, e⟩ := rng_eq
    rw [e] at h1
    exact err_of (laidMet.tail (laidMet.tail (laidMet.tail h1))) g_rng gt_rng

theorem sum_mem {l : List ByteArray} {x : ByteArray} (h : x ∈ l) : x.size + 1 ≤ (l.map (·.size + 1)).sum := by
  induction l with
  | nil => cases h
  | cons y l ih =>
    simp only [List.map_cons, List.sum_cons]
    rcases List.mem_cons.1 h with rfl | h
    · omega
    · have := ih h; omega
theorem sum_len (l : List ByteArray) : l.length ≤ (l.map (·.size + 1)).sum := by
  induction l with
  | nil => simp
  | cons y l ih => simp only [List.map_cons, List.sum_cons, List.length_cons]; omega

/-- the integers of a listed table, as cells -/
def cellsOfData : DataW Unit → Array Value
  | .agg ds => (ds.map fun | .lit (.int k z) => Value.int k z | _ => .bool false).toArray
  | _ => #[]
def fill (d : DataW Unit) : Obj → Obj
  | .cells _ t frozen => .cells (cellsOfData d) t frozen
  | o => o
def point (b : Nat) : Obj → Obj
  | .cells _ t frozen => .cells #[.iface t_p_errors_errorString (.pointer (some ⟨b, 0, none⟩))] t frozen
  | o => o
abbrev rngText : ByteArray := ⟨#[118, 97, 108, 117, 101, 32, 111, 117, 116, 32, 111, 102, 32, 114, 97, 110, 103, 101]⟩
abbrev synText : ByteArray := ⟨#[105, 110, 118, 97, 108, 105, 100, 32, 115, 121, 110, 116, 97, 120]⟩
noncomputable def low : Nat := (World.holding P default ⟨#[], #[], []⟩).heap.size
/-- a world that holds what is listed -/
noncomputable def laidWorld (os : Os) : World :=
  let w0 := World.holding P os ⟨#[.cells #[.string rngText] t_errors_errorString, .cells #[.string synText] t_errors_errorString], #[], []⟩
  { w0 with heap := ((((w0.heap.modify 2 (fill Rows.laid_internal_strconv_uint64pow10)).modify 4 (fill Rows.laid_math_bits_deBruijn32tab)).modify 5 (fill Rows.laid_math_bits_deBruijn64tab)).modify 1 (point low)).modify 0 (point (low + 1)) }
theorem laid_met_at (os : Os) (args : Array Value) : laidMet P listed ((laidWorld os).forCall (fun _ _ => 0) ⟨#[], args, []⟩).memory :=
  laidMet_of_run' 8 (by kernel_rfl) (by kernel_rfl)
end Go.Lf.G

