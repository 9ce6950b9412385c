/-
  The law ArchiveApart (chapter 20) over its formula.
-/
import Derived.Test.YtcaiammecilkeaaLfB1ToV9
import Derived.Test.YtcaiammecilkeaaLfW2ToV3
import Derived.Shelf.Strings.Search3
import Derived.Test.YtcaiammecilkeaaProg
set_option maxRecDepth 100000
set_option linter.unusedVariables false
set_option linter.unusedSimpArgs false
namespace Go.Lf.G
open Go

theorem rNamed_ok {A : Amb} {h : Heap} {s : ByteArray} {R : Value → Heap → Prop} (hs : s.size ≤ 1099511627776) (H : R (.bool (nameOK s)) h) : HCalls A P f_wherryref12_Named #[.string s] h R := by
  refine ok_wherryref12_Named ?_
  unfold F_wherryref12_Named
  refine Loop.rule (fun m x hh => ∃ i : Nat, x = ((i : Int), ()) ∧ hh = h ∧ m = s.size - i ∧ i ≤ s.size ∧ ∀ c ∈ (bl s).take i, 33 ≤ c.toNat ∧ c.toNat ≤ 126) ?_ ⟨0, rfl, rfl, rfl, by omega, by simp⟩
  rintro K1 m _ hh ⟨i, rfl, e, rfl, hi, hall⟩ hK1
  subst hh
  refine PIf.intro (fun hq2 => ?_) (fun hq2 => ?_)
  · have hil : i < s.size := by simpa using hq2
    obtain ⟨c, hc⟩ : ∃ c, (bl s)[i]? = some c := ⟨_, List.getElem?_eq_getElem (by rw [bl_size]; exact hil)⟩
    have hmem : c ∈ bl s := List.mem_of_getElem? hc
    dsimp only
    rw [sAt_nat hc]
    refine Join.mk fun K2 hK2 => ⟨⟨by omega, by omega⟩, ?_⟩
    have key2 : ∀ b2 : Bool, (b2 = true ↔ ¬ (33 ≤ c.toNat ∧ c.toNat ≤ 126)) → K2 (b2, ()) h := fun b2 hb2 => by
      refine hK2 _ _ ?_
      refine PIf.intro (fun hq => ?_) (fun hq => ?_)
      · have e : nameOK s = false := by
          rw [Bool.eq_false_iff]
          intro hn
          exact hb2.1 hq ((nameOK_iff.1 hn).2.2 c hmem)
        rw [e] at H; exact H
      · rw [wrap_succ (by omega)]
        refine hK1 (s.size - (i + 1)) _ _ (by omega) ⟨i + 1, rfl, rfl, rfl, hil, fun x hx => ?_⟩
        rw [List.take_add_one, hc, Option.toList_some] at hx
        rcases List.mem_append.1 hx with hx | hx
        · exact hall x hx
        · simp at hx; subst hx
          have hq : b2 = false := hq
          exact Decidable.byContradiction fun hh => by rw [hb2.2 hh] at hq; cases hq
    refine PIf.intro (fun hq3 => key2 _ ⟨fun _ => by simp at hq3; omega, fun _ => rfl⟩) (fun hq3 => ⟨⟨by omega, by omega⟩, key2 _ ⟨fun h4 => by simp at h4; omega, fun h4 => by simp at hq3; simp; omega⟩⟩)
  · have hil : i = s.size := by simp at hq2; omega
    rw [List.take_of_length_le (by rw [bl_size]; omega)] at hall
    have e : nameOK s = (decide (1 ≤ s.size) && decide (s.size ≤ 16)) := by
      rw [Bool.eq_iff_iff, nameOK_iff]
      simp only [Bool.and_eq_true, decide_eq_true_eq]
      exact ⟨fun h => ⟨h.1, h.2.1⟩, fun h => ⟨h.1, h.2, hall⟩⟩
    rw [e] at H
    refine PIf.intro (fun q => ?_) (fun q => ?_)
    · have h1 : 1 ≤ s.size := by simp at q; omega
      rw [decide_eq_true h1, Bool.true_and] at H
      have e : decide ((s.size : Int) ≤ (16 : Int)) = decide (s.size ≤ 16) := by rw [decide_eq_decide]; omega
      rw [e]; exact H
    · have h1 : ¬ 1 ≤ s.size := by simp at q; omega
      rw [decide_eq_false h1, Bool.false_and] at H
      exact H

theorem read_congr {m m' : Bx} (c : Calm m) (c' : Calm m') {w : ByteArray} (h : fileB m' (zn w) = fileB m (zn w)) : readA m' w = readA m w := by
  have : readB m' (zn w) = readB m (zn w) := by rw [calm_read c, calm_read c', h]
  unfold readA
  rw [this]
theorem P_msi : P.underlying t_map_string_int = some (.map t_string t_int) := by kernel_rfl
def evN (k : Nat) : List Ev := (List.range k).map fun i : Nat => evS ((i : Int) + 1) 13
theorem evN_succ (k : Nat) : evN (k + 1) = evN k ++ [evS ((k : Int) + 1) 13] := by simp [evN, List.range_succ]
theorem evN_len (k : Nat) : (evN k).length = k := by simp [evN]
theorem evN_ok {k : Nat} (hk : k ≤ 30) : (evN k).all evOK = true ∧ ∀ e ∈ evN k, e.data.size = 0 := by
  constructor
  · rw [List.all_eq_true]
    intro e he
    obtain ⟨i, hi, rfl⟩ := List.mem_map.1 he
    rw [List.mem_range] at hi
    exact (evS_ok (id := (i : Int) + 1) ⟨by omega, by omega⟩).2
  · intro e he
    obtain ⟨i, hi, rfl⟩ := List.mem_map.1 he
    rfl
theorem count_ok (n : Int) : ∃ k : Nat, 1 ≤ k ∧ k ≤ 30 ∧ IntKind.wrap .i64 (((IntKind.wrap .i64 ((n.tmod (30 : Int)) + (30 : Int))).tmod (30 : Int)) + (1 : Int)) = (k : Int) := by
  have h1 := Int.tmod_lt_of_pos n (b := 30) (by decide)
  have h2 := Int.lt_tmod_of_pos n (b := 30) (by decide)
  generalize n.tmod 30 = a at *
  rw [wrap_i64 (n := a + 30) (by omega) (by omega)]
  have h3 := Int.tmod_lt_of_pos (a + 30) (b := 30) (by decide)
  have h4 := Int.tmod_nonneg (a := a + 30) 30 (by omega)
  generalize (a + 30).tmod 30 = c at *
  rw [wrap_i64 (n := c + 1) (by omega) (by omega)]
  exact ⟨(c + 1).toNat, by omega, by omega, by omega⟩

/-- what is kept, and what the map says of it -/
def Kept (m : Bx) (lm : List (ByteArray × Value)) : Prop := ∀ p ∈ lm, p.1.size ≤ 1099511627776 ∧ ∃ k : Nat, p.2 = .int .i64 (k : Int) ∧ readA m p.1 = (0, evN k)
theorem app_ev' : appB P t_sl_api_Event t_api_Event EvE.w 72 = true := app_ev
theorem updM_len (k : ByteArray) (v : Value) : ∀ m : List (ByteArray × Value), (updM k v m).length ≤ m.length + 1
  | [] => by simp [updM]
  | p :: m => by
    unfold updM
    split
    · simp
    · have := updM_len k v m; simp; omega

structure Arch (h : Heap) (ab b mb : Nat) (hh : Heap) (S : Nat → Prop) (m : Bx) (lm : List (ByteArray × Value)) (i : Nat) : Prop where
  box : IsBox hh b S m
  calm : Calm m
  arc : hh[ab]? = some (.cells #[ptrV b] t_archive_Archive (0, 0))
  map : MapS hh mb lm
  ext : Ext h hh
  fresh : ∀ c, S c → h.size ≤ c ∧ c ≠ ab ∧ c ≠ mb
  ne : ab ≠ mb ∧ h.size ≤ mb
  wt : wtF m.files ≤ i * 2000000
  len : lm.length ≤ i
  kept : Kept m lm
theorem Arch.on {h : Heap} {ab b mb : Nat} {hh h2 : Heap} {S : Nat → Prop} {m : Bx} {lm : List (ByteArray × Value)} {i : Nat} (a : Arch h ab b mb hh S m lm i) (x : Ext hh h2) : Arch h ab b mb h2 S m lm i :=
  ⟨a.box.ext x, a.calm, x.blk a.arc (fun h => h), a.map.mod x (fun h => h), a.ext.trans x, a.fresh, a.ne, a.wt, a.len, a.kept⟩

theorem ArchiveApart_ok {A : Amb} {h : Heap} {wids sigs : Sl} {l : List ByteArray} {sg : List Int} {R : Value → Heap → Prop} (v : View StrE h wids l) (v2 : View IntE h sigs sg) (hl : l.length ≤ 1099511627776) (hl2 : sg.length ≤ 1099511627776) (hw : ∀ x ∈ l, x.size ≤ 4194304)
    (H : ∀ h', Ext h h' → R (.bool true) h') : HCalls A P f_wherrylaw20_ArchiveApart #[.slice wids.p wids.len wids.cap, .slice sigs.p sigs.len sigs.cap] h R := by
  refine ok_wherrylaw20_ArchiveApart ?_
  unfold F_wherrylaw20_ArchiveApart
  refine awake20_ok fun h1 x1 => ⟨_, rfl, PIf.no rfl ?_⟩
  rw [v.len]
  refine PIf.intro (fun hq => H h1 x1) (fun hq => ?_)
  have h20 : l.length ≤ 20 := by simp at hq; omega
  refine bNew_ok fun b h2 S B x2 hS => ⟨_, rfl, ?_⟩
  refine aNew_ok fun h3 ha x3 hs3 => ⟨_, rfl, ?_⟩
  refine New.mk fun h4 _ hm x4 hs4 => ?_
  have hx1 := x1.size
  have hx2 := x2.size
  have A0 : Arch h h2.size b h3.size h4 S newB [] 0 := by
    refine ⟨(B.ext x3).ext x4, calm_new, x4.blk ha (fun h => h), MapS.empty hm, ((x1.trans x2).trans x3).trans x4, fun c hc => ?_, ⟨by omega, by omega⟩, by simp [newB, wtF], by simp, fun p hp => by cases hp⟩
    have := B.lt hc
    have := hS c hc
    omega
  generalize h2.size = ab at *
  generalize h3.size = mb at *
  refine Loop.rule (fun n x hh => ∃ (i : Nat) (S : Nat → Prop) (m : Bx) (lm : List (ByteArray × Value)), x = ((i : Int), ()) ∧ Arch h ab b mb hh S m lm i ∧ i ≤ l.length ∧ n = l.length - i) ?_ ⟨0, S, newB, [], rfl, A0, by omega, rfl⟩
  clear A0 ha hm x3 x4 B hS hx1 hx2 x1 x2 hs3 hs4
  rintro K n _ hh ⟨i, S, m, lm, rfl, Ar, hi, rfl⟩ hK
  refine PIf.intro (fun hq2 => ?_) (fun hq2 => ?_)
  · have hil : i < l.length := by simpa using hq2
    obtain ⟨w, hwi⟩ : ∃ w, l[i]? = some w := ⟨_, List.getElem?_eq_getElem hil⟩
    have hws := hw w (List.mem_of_getElem? hwi)
    refine Join.mk fun K1 hK1 => ?_
    have fin : ∀ (S' : Nat → Prop) (m' : Bx) (lm' : List (ByteArray × Value)) (h' : Heap), Arch h ab b mb h' S' m' lm' (i + 1) → K1 () h' := fun S' m' lm' h' a => by
      refine hK1 _ _ ?_
      dsimp only
      rw [wrap_succ (by omega)]
      exact hK (l.length - (i + 1)) _ _ (by omega) ⟨i + 1, S', m', lm', rfl, a, hil, rfl⟩
    rw [← v.len]
    refine (v.ext Ar.ext).idx hwi fun a _ c => ?_
    refine LoadS.mk c.str ?_
    rw [v2.len]
    refine Join.mk fun K2 hK2 => ?_
    have main : ∀ k : Nat, 1 ≤ k → k ≤ 30 → K2 ((k : Int), ()) hh := fun k hk1 hk2 => by
      refine hK2 _ _ ?_
      refine Loop.rule (fun n x h' => ∃ (j : Nat) (s : Sl), x = (s, (j : Int), ()) ∧ Ext hh h' ∧ Own EvE t_api_Event h' s (evN j) ∧ (∀ c, s.blk = some c → hh.size ≤ c) ∧ j ≤ k ∧ n = k - j) ?_ ⟨0, ⟨none, 0, 0⟩, rfl, Mod.refl, Own.nil, fun c hc => by simp [Sl.blk] at hc, by omega, rfl⟩
      rintro K3 n _ h5 ⟨j, s, rfl, x5, o5, f5, hj, rfl⟩ hK3
      refine PIf.intro (fun hq3 => ?_) (fun hq3 => ?_)
      · have hjk : j < k := by simp at hq3; omega
        refine New.append1 (E := EvE) (x := evS ((j : Int) + 1) 13) (s := s) (l := evN j) (by dsimp only; rw [wrap_i64 (n := (j : Int) + 1) (by omega) (by omega)]; rfl) app_ev o5 (by rw [evN_len]; omega) (by rw [evN_len]; simp [maxLen]; omega) fun s' h6 o6 m6 b6 n6 => ?_
        dsimp only
        rw [wrap_succ (by omega)]
        refine hK3 (k - (j + 1)) _ _ (by omega) ⟨j + 1, s', rfl, x5.more m6 f5, by rw [evN_succ]; exact o6, fun c hc => ?_, hjk, rfl⟩
        rcases b6 c hc with h | h
        · exact f5 c h
        · have := x5.size; omega
      · have hjk : j = k := by simp at hq3; omega
        subst hjk
        have A5 := Ar.on x5
        obtain ⟨e1, e2⟩ := evN_ok hk2
        have hlen := evN_len j
        have hd : ∀ e ∈ evN j, e.data.size ≤ 4194304 := fun e he => by have := e2 e he; omega
        have hwt := A5.wt
        have himul : i * 2000000 ≤ 20 * 2000000 := Nat.mul_le_mul_right _ (by omega)
        refine aKeep_ok (s := s) (l := evN j) A5.arc A5.box A5.calm (fun hc => (A5.fresh _ hc).2.1 rfl) (by omega) (by omega) o5.view (fun h' md => o5.view.mod md fun c hc hs => ?_) (by omega) hd (fun hne h6 x6 => ⟨_, rfl, ?_⟩) fun hk0 h6 S6 m6 B6 c6 md6 s6 fl6 w6 => ⟨_, rfl, ?_⟩
        · have := Ar.box.lt hs
          have := f5 c hc
          omega
        · -- it is refused: the name is none
          have hn : nameOK w = false := by
            cases hn : nameOK w with
            | false => rfl
            | true => exact absurd (keep_small hn (l := evN j) (by rw [hlen]; omega) e1 e2) hne
          have hke : keepE w (evN j) = 1 := by unfold keepE; rw [hn, if_neg (by decide)]
          rw [hke]
          refine PIf.no rfl (Join.mk fun K4 hK4 => PIf.no rfl ?_)
          refine rNamed_ok (by omega) ⟨_, rfl, hK4 _ _ ?_⟩
          rw [hn]
          refine PIf.no rfl (fin S m lm h6 ?_)
          have a6 := A5.on x6
          exact ⟨a6.box, a6.calm, a6.arc, a6.map, a6.ext, a6.fresh, a6.ne, Nat.le_trans a6.wt (Nat.mul_le_mul_right _ (Nat.le_succ i)), Nat.le_succ_of_le a6.len, a6.kept⟩
        · refine PIf.yes rfl ?_
          have hmb5 := A5.map.lt
          have hS6 : ∀ c, S6 c → h.size ≤ c ∧ c ≠ ab ∧ c ≠ mb := fun c hc => by
            rcases s6 c hc with h | h
            · exact A5.fresh c h
            · have q := blk_lt A5.arc
              have q2 := A5.ext.size
              omega
          have M6 : MapS h6 mb lm := A5.map.mod md6 fun hs => (A5.fresh _ hs).2.2 rfl
          have hlm := A5.len
          refine update_ok P_msi P_str M6 (by simp [maxLen]; omega) (by simp [maxLen]; omega) fun h7 M7 m7 hs7 => fin S6 m6 (updM w (.int .i64 (j : Int)) lm) h7 ?_
          refine ⟨B6.mod m7 fun c hc => (hS6 c hc).2.2, c6, m7.blk (md6.blk A5.arc fun hs => (A5.fresh _ hs).2.1 rfl) Ar.ne.1, M7, ?_, hS6, Ar.ne, by omega, by have := updM_len w (.int .i64 (j : Int)) lm; omega, ?_⟩
          · exact (A5.ext.more md6 fun c hc => (A5.fresh c hc).1).more m7 fun c hc => by subst hc; exact Ar.ne.2
          · have hread : readA m6 w = (0, evN j) := read_kept c6 hk0 hd (by rw [fl6, if_pos rfl])
            have old : ∀ p ∈ lm, p.1 ≠ w → p.1.size ≤ 1099511627776 ∧ ∃ k : Nat, p.2 = .int .i64 (k : Int) ∧ readA m6 p.1 = (0, evN k) := fun p hp hne => by
              obtain ⟨q1, k, q2, q3⟩ := A5.kept p hp
              refine ⟨q1, k, q2, ?_⟩
              rw [read_congr A5.calm c6 (by rw [fl6, if_neg (fun hz => hne (zn_inj hz))]), q3]
            have all : ∀ lm : List (ByteArray × Value), (lm.map (·.1)).Nodup → (∀ p ∈ lm, p.1 ≠ w → p.1.size ≤ 1099511627776 ∧ ∃ k : Nat, p.2 = .int .i64 (k : Int) ∧ readA m6 p.1 = (0, evN k)) → Kept m6 (updM w (.int .i64 (j : Int)) lm) := by
              intro lm
              induction lm with
              | nil =>
                intro _ _ p hp
                simp only [updM, List.mem_singleton] at hp
                subst hp
                exact ⟨by simp only; omega, j, rfl, hread⟩
              | cons q lm ih =>
                intro hnd ho p hp
                unfold updM at hp
                simp only [List.map_cons, List.nodup_cons] at hnd
                split at hp
                · rename_i hqw
                  rcases List.mem_cons.1 hp with rfl | hp
                  · exact ⟨by simp only; omega, j, rfl, hread⟩
                  · refine ho p (List.mem_cons_of_mem _ hp) fun hpw => hnd.1 ?_
                    rw [hqw, ← hpw]
                    exact List.mem_map.2 ⟨p, hp, rfl⟩
                · rename_i hqw
                  rcases List.mem_cons.1 hp with rfl | hp
                  · exact ho p (by simp) hqw
                  · exact ih hnd.2 (fun x hx => ho x (List.mem_cons_of_mem _ hx)) p hp
            obtain ⟨es, clock, hes, M⟩ := M6
            exact all lm M.nodup old
    refine PIf.intro (fun hq3 => ?_) (fun hq3 => ?_)
    · have hsg : i < sg.length := by simpa using hq3
      obtain ⟨n, hn⟩ : ∃ n, sg[i]? = some n := ⟨_, List.getElem?_eq_getElem hsg⟩
      rw [← v2.len]
      refine (v2.ext Ar.ext).idx hn fun a2 _ c2 => ?_
      refine LoadI.mk c2.int ?_
      obtain ⟨k, k1, k2, ek⟩ := count_ok n
      rw [ek]
      exact main k k1 k2
    · exact main 1 (by decide) (by decide)
  · have hil : i = l.length := by simp at hq2; omega
    have hwt := Ar.wt
    have himul : i * 2000000 ≤ 20 * 2000000 := Nat.mul_le_mul_right _ (by omega)
    refine range_ok P_msi Ar.map fun h5 I5 x5 hs5 => ⟨_, rfl, ?_⟩
    have A5 := Ar.on x5
    generalize hr : hh.size = r at *
    refine Loop.rule (fun n x h' => ∃ k : Nat, MapIter h' r mb lm k ∧ Arch h ab b mb h' S m lm i ∧ n = k ∧ (∀ c, S c → c ≠ r) ∧ r ≠ ab ∧ h.size ≤ r) ?_ ⟨lm.length, I5, A5, rfl, ?_, ?_, ?_⟩
    · rintro K5 n _ h6 ⟨k, I, a6, hn, f1, f2, f3⟩ hK5
      refine next_ok I (.inl ⟨rfl, H h6 a6.ext⟩) fun p hp h7 n' S7 hlt m7 => .inr ⟨_, _, rfl, ?_⟩
      have I7 := S7.iter
      have a7 : Arch h ab b mb h7 S m lm i := ⟨a6.box.mod m7 f1, a6.calm, m7.blk a6.arc f2.symm, a6.map.mod m7 I.ne.symm, a6.ext.more m7 fun c hc => by subst hc; exact f3, a6.fresh, a6.ne, a6.wt, a6.len, a6.kept⟩
      obtain ⟨q1, kk, q2, q3⟩ := a7.kept p hp
      refine entry_ok S7 ⟨_, _, rfl, _, rfl, (kk : Int), q2, ?_⟩
      refine aEvents_ok a7.arc a7.box (by omega) q1 fun h8 s8 x8 v8 l8 => ⟨s8, _, rfl, ?_⟩
      rw [q3] at v8 ⊢
      refine Join.mk fun K7 hK7 => PIf.no rfl (hK7 _ _ ?_)
      have hl8 : s8.len = kk := by rw [v8.len]; exact evN_len kk
      refine PIf.no (by rw [hl8]; simp) ?_
      exact hK5 n' _ _ (by omega) ⟨n', I7.mod x8 (fun h => h) (fun h => h), a7.on x8, rfl, f1, f2, f3⟩
    · intro c hc e
      have := Ar.box.lt hc
      omega
    · have := blk_lt Ar.arc
      omega
    · have := Ar.ext.size
      omega
end Go.Lf.G

/-
  Contracts: the document's programs of steps (chapter 12).
-/
set_option maxRecDepth 100000
set_option linter.unusedVariables false
set_option linter.unusedSimpArgs false
namespace Go.Lf.G
open Go

theorem rIn_ok {A : Amb} {h : Heap} {n lo hi : Int} {R : Value → Heap → Prop} (H : R (.bool (inI n lo hi)) h) : HCalls A P f_wherryref12_in #[.int .i64 n, .int .i64 lo, .int .i64 hi] h R := by
  refine ok_wherryref12_in ?_
  unfold F_wherryref12_in
  refine PIf.intro (fun hq => ?_) (fun hq => ?_)
  · have e : inI n lo hi = decide (n ≤ hi) := by simp at hq; unfold inI; rw [decide_eq_decide]; omega
    rw [e] at H; exact H
  · have e : inI n lo hi = false := by simp at hq; unfold inI; simp; omega
    rw [e] at H; exact H
theorem eq0 (n : Int) : (n == (0 : Int)) = decide (n = 0) := by by_cases hn : n = 0 <;> simp [hn]
theorem PIf.and {b : Bool} {X Y : Prop} (h1 : b = true → X) (h2 : b = false → Y) : PIf b X Y := PIf.intro h1 h2

theorem rStep_ok {A : Amb} {h : Heap} {x : Stp} {R : Value → Heap → Prop} (hs1 : x.name.size ≤ 1099511627776) (hs2 : x.undo.size ≤ 1099511627776) (H : ∀ h', Ext h h' → R (.bool (stpOK x)) h') :
    HCalls A P f_wherryref12_Step #[.agg #[.int .i64 x.kind, .string x.name, .string x.undo, .int .i64 x.tries, .int .i64 x.undoTries, .int .i64 x.wait]] h R := by
  refine ok_wherryref12_Step ?_
  unfold F_wherryref12_Step
  refine New.mk fun h1 _ hb x1 _ => ?_
  have H1 := H h1 x1
  refine LoadI.mk (hget_lit hb rfl) ?_
  unfold stpOK at H1
  refine PIf.intro (fun hk => ?_) (fun hk => ?_)
  · have hk : x.kind = 1 := by simpa using hk
    rw [if_pos hk] at H1
    refine Join.mk fun K hK => ?_
    have key : ∀ bb : Bool, bb = !((decide (x.undo = bs0') && decide (x.undoTries = 0)) || (nameOK x.undo && inI x.undoTries 1 5)) → K (bb, ()) h1 := fun bb hbb => by
      refine hK _ _ ?_
      subst hbb
      generalize ((decide (x.undo = bs0') && decide (x.undoTries = 0)) || (nameOK x.undo && inI x.undoTries 1 5)) = u at *
      cases u with
      | false => exact PIf.yes rfl (by simpa using H1)
      | true =>
        refine PIf.no rfl (LoadS.mk (hget_lit1 hb rfl) (rNamed_ok hs1 ⟨_, rfl, ?_⟩))
        refine PIf.intro (fun q1 => ?_) (fun q1 => by rw [q1] at H1; simpa using H1)
        refine LoadI.mk (hget_lit1 hb rfl) (rIn_ok ⟨_, rfl, ?_⟩)
        refine PIf.intro (fun q2 => ?_) (fun q2 => by rw [q1, q2] at H1; simpa using H1)
        refine LoadI.mk (hget_lit1 hb rfl) ?_
        rw [q1, q2] at H1
        rw [eq0]
        simpa using H1
    have sub : x.undo ≠ bs0' → HCalls A P f_wherryref12_Named #[.string x.undo] h1 fun v2 h5 => ∃ t22 : Bool, v2 = .bool t22 ∧ (PIf (!t22) (K (true, ()) h5) (LoadI .i64 h5 ((⟨h.size, 0, none⟩ : Addr).add 4) fun t26 =>
        HCalls A P f_wherryref12_in #[.int .i64 t26, .int .i64 1, .int .i64 5] h5 fun v3 h6 => ∃ t27 : Bool, v3 = .bool t27 ∧ (K ((!t27), ()) h6))) := fun hu => by
      have e : decide (x.undo = bs0') = false := decide_eq_false hu
      refine rNamed_ok hs2 ⟨_, rfl, ?_⟩
      refine PIf.intro (fun q => key _ ?_) (fun q => ?_)
      · have q : nameOK x.undo = false := by simpa using q
        rw [e, q]; rfl
      · have q : nameOK x.undo = true := by simpa using q
        refine LoadI.mk (hget_lit1 hb rfl) (rIn_ok ⟨_, rfl, key _ ?_⟩)
        rw [e, q]; rfl
    refine LoadS.mk (hget_lit1 hb rfl) ?_
    rw [bs_eq]
    refine PIf.intro (fun hu => ?_) (fun hu => ?_)
    · have hu' : x.undo = bs0' := of_decide_eq_true hu
      have hn : nameOK x.undo = false := by
        cases hn : nameOK x.undo with
        | false => rfl
        | true => exact absurd hu' (nameOK_ne hn)
      refine LoadI.mk (hget_lit1 hb rfl) ?_
      refine PIf.intro (fun hz => key _ ?_) (fun hz => ?_)
      · have e : decide (x.undoTries = 0) = false := by simpa using hz
        rw [hu, e, hn]; rfl
      · have e : decide (x.undoTries = 0) = true := by simpa using hz
        refine LoadS.mk (hget_lit1 hb rfl) ?_
        rw [bs_eq, hu]
        refine PIf.no rfl (key _ ?_)
        rw [hu, e]; rfl
    · have hu' : x.undo ≠ bs0' := of_decide_eq_false hu
      refine LoadS.mk (hget_lit1 hb rfl) ?_
      rw [bs_eq, hu]
      exact PIf.yes rfl (LoadS.mk (hget_lit1 hb rfl) (sub hu'))
  · have hk : x.kind ≠ 1 := by simpa using hk
    rw [if_neg hk] at H1
    refine PIf.intro (fun hk2 => ?_) (fun hk2 => ?_)
    · have hk2 : x.kind = 2 := by simpa using hk2
      rw [if_pos hk2] at H1
      refine LoadS.mk (hget_lit1 hb rfl) ?_
      rw [bs_eq]
      refine PIf.intro (fun q1 => ?_) (fun q1 => by rw [q1] at H1; simpa using H1)
      refine LoadS.mk (hget_lit1 hb rfl) ?_
      rw [bs_eq]
      refine PIf.intro (fun q2 => ?_) (fun q2 => by rw [q1, q2] at H1; simpa using H1)
      refine LoadI.mk (hget_lit1 hb rfl) ?_
      rw [eq0]
      refine PIf.intro (fun q3 => ?_) (fun q3 => by rw [q1, q2, q3] at H1; simpa using H1)
      refine LoadI.mk (hget_lit1 hb rfl) ?_
      rw [eq0]
      refine PIf.intro (fun q4 => ?_) (fun q4 => by rw [q1, q2, q3, q4] at H1; simpa using H1)
      refine LoadI.mk (hget_lit1 hb rfl) (rIn_ok ⟨_, rfl, ?_⟩)
      rw [q1, q2, q3, q4] at H1
      simpa using H1
    · have hk2 : x.kind ≠ 2 := by simpa using hk2
      rw [if_neg hk2] at H1
      refine PIf.intro (fun hk3 => ?_) (fun hk3 => ?_)
      · have hk3 : x.kind = 3 := by simpa using hk3
        rw [if_pos hk3] at H1
        refine LoadS.mk (hget_lit1 hb rfl) (rNamed_ok hs1 ⟨_, rfl, ?_⟩)
        refine PIf.intro (fun q0 => ?_) (fun q0 => by rw [q0] at H1; simpa using H1)
        rw [q0] at H1
        refine LoadS.mk (hget_lit1 hb rfl) ?_
        rw [bs_eq]
        refine PIf.intro (fun q1 => ?_) (fun q1 => by rw [q1] at H1; simpa using H1)
        refine LoadI.mk (hget_lit1 hb rfl) ?_
        rw [eq0]
        refine PIf.intro (fun q2 => ?_) (fun q2 => by rw [q1, q2] at H1; simpa using H1)
        refine LoadI.mk (hget_lit1 hb rfl) ?_
        rw [eq0]
        refine PIf.intro (fun q3 => ?_) (fun q3 => by rw [q1, q2, q3] at H1; simpa using H1)
        refine LoadI.mk (hget_lit1 hb rfl) ?_
        rw [eq0]
        rw [q1, q2, q3] at H1
        simpa using H1
      · have hk3 : x.kind ≠ 3 := by simpa using hk3
        rw [if_neg hk3] at H1
        exact H1

theorem rRight_ok {A : Amb} {h : Heap} {s : Sl} {p : Prg} {R : Value → Heap → Prop} (v : View StpE h s p.steps) (hl : p.steps.length ≤ 1099511627776) (hsz : ∀ x ∈ p.steps, x.name.size ≤ 1099511627776 ∧ x.undo.size ≤ 1099511627776) (H : ∀ h', Ext h h' → R (.bool (prgOK p)) h') :
    HCalls A P f_wherryref12_Right #[.agg #[.slice s.p s.len s.cap, .int .i64 p.limit]] h R := by
  refine ok_wherryref12_Right ?_
  unfold F_wherryref12_Right
  refine New.mk fun h1 _ hb x1 _ => ?_
  refine Join.mk fun K hK => LoadL.mk (s := s) (hget_lit hb rfl) ?_
  rw [v.len]
  have no : ∀ h', Ext h h' → prgOK p = false → R (.bool false) h' := fun h' x e => by have := H h' x; rw [e] at this; exact this
  have key : ∀ bb : Bool, (bb = true ↔ ¬ (p.steps.length ≤ 16 ∧ inI p.limit 0 16000 = true)) → K (bb, ()) h1 := fun bb hbb => by
    refine hK _ _ ?_
    refine PIf.intro (fun hq => no h1 x1 ?_) (fun hq => ?_)
    · rw [Bool.eq_false_iff]
      intro hp
      simp only [prgOK, Bool.and_eq_true, decide_eq_true_eq] at hp
      exact hbb.1 hq hp.1
    have hfine : p.steps.length ≤ 16 ∧ inI p.limit 0 16000 = true := Decidable.byContradiction fun hh => by
      have hq : bb = false := hq
      rw [hbb.2 hh] at hq; cases hq
    refine Loop.rule (fun m x hh => ∃ i : Nat, x = ((i : Int), ()) ∧ Ext h1 hh ∧ m = p.steps.length - i ∧ i ≤ p.steps.length ∧ (p.steps.take i).all stpOK = true) ?_ ⟨0, rfl, Mod.refl, rfl, by omega, rfl⟩
    rintro K1 m _ hh ⟨i, rfl, xe, rfl, hi, hall⟩ hK1
    have hbh := xe.blk hb (fun h => h)
    have xh := x1.trans xe
    refine LoadL.mk (s := s) (hget_lit hbh rfl) ?_
    rw [v.len]
    refine PIf.intro (fun hq2 => ?_) (fun hq2 => ?_)
    · have hil : i < p.steps.length := by simpa using hq2
      obtain ⟨x, hx⟩ : ∃ x, p.steps[i]? = some x := ⟨_, List.getElem?_eq_getElem hil⟩
      have hm := List.mem_of_getElem? hx
      refine LoadL.mk (s := s) (hget_lit hbh rfl) ?_
      refine (v.ext xh).idx hx fun a _ c => ?_
      obtain ⟨c0, c1, c2, c3, c4, c5⟩ := stp_at c
      refine LoadI.mk c0 (LoadS.mk c1 (LoadS.mk c2 (LoadI.mk c3 (LoadI.mk c4 (LoadI.mk c5 ?_)))))
      refine rStep_ok (x := x) (hsz x hm).1 (hsz x hm).2 fun h4 x4 => ⟨_, rfl, ?_⟩
      refine PIf.intro (fun hq3 => no h4 (xh.trans x4) ?_) (fun hq3 => ?_)
      · rw [Bool.eq_false_iff]
        intro hp
        simp only [prgOK, Bool.and_eq_true, decide_eq_true_eq, List.all_eq_true] at hp
        have := hp.2 x hm
        rw [this] at hq3; cases hq3
      · dsimp only
        rw [wrap_succ (by omega)]
        refine hK1 (p.steps.length - (i + 1)) _ _ (by omega) ⟨i + 1, rfl, xe.trans x4, rfl, hil, ?_⟩
        rw [List.take_add_one, hx, Option.toList_some, List.all_append, hall]
        simpa using hq3
    · have hil : i = p.steps.length := by simp at hq2; omega
      rw [List.take_of_length_le (by omega)] at hall
      have := H hh xh
      have e : prgOK p = true := by simp only [prgOK, Bool.and_eq_true, decide_eq_true_eq]; exact ⟨hfine, hall⟩
      rw [e] at this
      exact this
  refine PIf.intro (fun hq => key _ ⟨fun _ h2 => by simp at hq; omega, fun _ => rfl⟩) (fun hq => ?_)
  refine LoadI.mk (hget_lit1 hb rfl) (rIn_ok ⟨_, rfl, key _ ?_⟩)
  have h16 : p.steps.length ≤ 16 := by simp at hq; omega
  simp [h16]
end Go.Lf.G

/-
  Contracts: the document's programs as bytes (chapter 12).
-/
set_option maxRecDepth 100000
set_option linter.unusedVariables false
set_option linter.unusedSimpArgs false
namespace Go.Lf.G
open Go

theorem rText_ok' {A : Amb} {h : Heap} {s : ByteArray} {R : Value → Heap → Prop} (hl : s.size ≤ 1099511627776) (H : ∀ h', Ext h h' → R (.string (strL (textL (bl s)))) h') : HCalls A P f_wherryref01_Text #[.string s] h R := by
  have := rText_ok (A := A) (h := h) (l := bl s) (R := R) (by rw [bl_size]; exact hl) H
  rwa [strL_bl] at this
theorem rInt_ok' {A : Amb} {h : Heap} {n : Int} {R : Value → Heap → Prop} (h0 : 0 ≤ n) (h1 : n ≤ 9223372036854775807) (H : ∀ h', Ext h h' → R (.string (strL (putV n.toNat))) h') : HCalls A P f_wherryref01_Int #[.int .i64 n] h R := by
  have := rInt_ok (A := A) (h := h) (n := n.toNat) (R := R) (by omega) H
  rwa [show ((n.toNat : Nat) : Int) = n by omega] at this
theorem textL_len {s : ByteArray} (h : s.size < 18446744073709551616) : (textL (bl s)).length ≤ 10 + s.size := by
  have := putV_len10 h
  simp only [textL, List.length_append, bl_size]
  omega
theorem stp_bounds {x : Stp} (h : stpOK x = true) : 0 ≤ x.kind ∧ x.kind ≤ 3 ∧ (x.kind = 1 ∨ x.kind = 2 ∨ x.kind = 3) ∧ x.name.size ≤ 16 ∧ x.undo.size ≤ 16 ∧ 0 ≤ x.tries ∧ x.tries ≤ 5 ∧ 0 ≤ x.undoTries ∧ x.undoTries ≤ 5 ∧ 0 ≤ x.wait ∧ x.wait ≤ 1000 := by
  have nsz : ∀ {s : ByteArray}, nameOK s = true → s.size ≤ 16 := fun h => (nameOK_iff.1 h).2.1
  have z : bs0'.size = 0 := rfl
  unfold stpOK at h
  split at h
  · rename_i hk
    simp only [Bool.and_eq_true, Bool.or_eq_true, decide_eq_true_eq, inI_iff] at h
    obtain ⟨⟨⟨hu, hn⟩, ht⟩, hw⟩ := h
    have := nsz hn
    rcases hu with ⟨h1, h2⟩ | ⟨h1, h2⟩
    · rw [h1]; omega
    · have := nsz h1; omega
  · split at h
    · rename_i hk1 hk
      simp only [Bool.and_eq_true, decide_eq_true_eq, inI_iff] at h
      obtain ⟨⟨⟨⟨h1, h2⟩, h3⟩, h4⟩, h5⟩ := h
      rw [h1, h2]; omega
    · split at h
      · rename_i hk1 hk2 hk
        simp only [Bool.and_eq_true, decide_eq_true_eq] at h
        obtain ⟨⟨⟨⟨h1, h2⟩, h3⟩, h4⟩, h5⟩ := h
        have := nsz h5
        rw [h1]; omega
      · cases h
theorem encStp_len {x : Stp} (h : stpOK x = true) : (encStp x).length ≤ 100 := by
  obtain ⟨b1, b2, b3, b4, b5, b6, b7, b8, b9, b10, b11⟩ := stp_bounds h
  have p1 := putV_len10 (n := x.kind.toNat) (by omega)
  have p2 := putV_len10 (n := x.tries.toNat) (by omega)
  have p3 := putV_len10 (n := x.undoTries.toNat) (by omega)
  have p4 := putV_len10 (n := x.wait.toNat) (by omega)
  have t1 := textL_len (s := x.name) (by omega)
  have t2 := textL_len (s := x.undo) (by omega)
  unfold encStp
  rw [List.length_append]
  split
  · simp only [List.length_append]; omega
  · split <;> omega
theorem encStps_len : ∀ {l : List Stp}, l.all stpOK = true → (l.flatMap encStp).length ≤ l.length * 100
  | [], _ => by simp
  | x :: l, h => by
    simp only [List.all_cons, Bool.and_eq_true] at h
    have h1 := encStp_len h.1
    have h2 := encStps_len h.2
    simp only [List.flatMap_cons, List.length_append, List.length_cons]
    omega

def resEncP (p : Prg) : Value := .tuple #[.string (strL (if prgOK p then encPrg p else [])), .int .i64 (if prgOK p then 0 else 130)]
theorem rEncode12_ok {A : Amb} {h : Heap} {s : Sl} {p : Prg} {R : Value → Heap → Prop} (v : View StpE h s p.steps) (hl : p.steps.length ≤ 1099511627776) (hsz : ∀ x ∈ p.steps, x.name.size ≤ 1099511627776 ∧ x.undo.size ≤ 1099511627776) (H : ∀ h', Ext h h' → R (resEncP p) h') :
    HCalls A P f_wherryref12_Encode #[.agg #[.slice s.p s.len s.cap, .int .i64 p.limit]] h R := by
  refine ok_wherryref12_Encode ?_
  unfold F_wherryref12_Encode
  refine New.mk fun h1 _ hb x1 _ => ?_
  refine LoadL.mk (s := s) (hget_lit hb rfl) (LoadI.mk (hget_lit1 hb rfl) ?_)
  refine rRight_ok (p := p) (v.ext x1) hl hsz fun h2 x2 => ⟨_, rfl, ?_⟩
  cases hok : prgOK p with
  | false =>
    refine PIf.yes rfl ?_
    have := H h2 (x1.trans x2)
    rw [resEncP, hok] at this
    exact this
  | true =>
    refine PIf.no rfl ?_
    have H2 : ∀ h', Ext h2 h' → R (.tuple #[.string (strL (encPrg p)), .int .i64 0]) h' := fun h' x => by
      have := H h' ((x1.trans x2).trans x)
      rw [resEncP, hok] at this
      exact this
    simp only [prgOK, Bool.and_eq_true, decide_eq_true_eq] at hok
    obtain ⟨⟨h16, hlim⟩, hall⟩ := hok
    have hlim' := inI_iff.1 hlim
    have hb2 := x2.blk hb (fun h => h)
    refine LoadI.mk (hget_lit1 hb2 rfl) (rInt_ok' (by omega) (by omega) fun h3 x3 => ⟨_, rfl, ?_⟩)
    have hb3 := x3.blk hb2 (fun h => h)
    refine LoadL.mk (s := s) (hget_lit hb3 rfl) ⟨hget_lit hb2 rfl, ?_⟩
    rw [v.len]
    have p1 := putV_len10 (n := p.limit.toNat) (by omega)
    have p2 := putV_len10 (n := p.steps.length) (by omega)
    refine rInt_ok (by omega) fun h4 x4 => ⟨_, rfl, ⟨by rw [strL_size, strL_size, max_i64]; omega, ?_⟩⟩
    have hb4 := x4.blk hb3 (fun h => h)
    rw [strL_app]
    refine Loop.rule (fun m x hh => ∃ i : Nat, x = (strL ((putV p.limit.toNat ++ putV p.steps.length) ++ (p.steps.take i).flatMap encStp), (i : Int), ()) ∧ Ext h4 hh ∧ m = p.steps.length - i ∧ i ≤ p.steps.length) ?_ ⟨0, by simp, Mod.refl, rfl, by omega⟩
    rintro K m _ hh ⟨i, rfl, xe, rfl, hi⟩ hK
    have hbh := xe.blk hb4 (fun h => h)
    have xh : Ext h2 hh := (x3.trans x4).trans xe
    have x0h : Ext h hh := (x1.trans x2).trans xh
    refine LoadL.mk (s := s) (hget_lit hbh rfl) ?_
    rw [v.len]
    refine PIf.intro (fun hq2 => ?_) (fun hq2 => ?_)
    · have hil : i < p.steps.length := by simpa using hq2
      obtain ⟨x, hx⟩ : ∃ x, p.steps[i]? = some x := ⟨_, List.getElem?_eq_getElem hil⟩
      have hm := List.mem_of_getElem? hx
      have hxok := List.all_eq_true.1 hall x hm
      obtain ⟨b1, b2, b3, b4, b5, b6, b7, b8, b9, b10, b11⟩ := stp_bounds hxok
      have htl : ((p.steps.take i).flatMap encStp).length ≤ 1600 := by
        have := encStps_len (l := p.steps.take i) (List.all_eq_true.2 fun y hy => List.all_eq_true.1 hall y (List.mem_of_mem_take hy))
        have : (p.steps.take i).length ≤ 16 := by simp; omega
        omega
      refine Join.mk fun K1 hK1 => ?_
      have fin : ∀ h', Ext hh h' → K1 (strL (((putV p.limit.toNat ++ putV p.steps.length) ++ (p.steps.take i).flatMap encStp) ++ encStp x), ()) h' := fun h' x' => by
        refine hK1 _ _ ?_
        dsimp only
        rw [wrap_succ (by omega)]
        refine hK (p.steps.length - (i + 1)) _ _ (by omega) ⟨i + 1, ?_, xe.trans x', rfl, hil⟩
        rw [List.take_add_one, hx, Option.toList_some, List.flatMap_append]
        simp [List.append_assoc]
      generalize hacc : (putV p.limit.toNat ++ putV p.steps.length) ++ (p.steps.take i).flatMap encStp = acc at *
      have hal : acc.length ≤ 2000 := by rw [← hacc]; simp only [List.length_append]; omega
      refine LoadL.mk (s := s) (hget_lit hbh rfl) ?_
      refine (v.ext x0h).idx hx fun a _ c => ?_
      obtain ⟨c0, c1, c2, c3, c4, c5⟩ := stp_at c
      refine LoadI.mk c0 (LoadS.mk c1 (LoadS.mk c2 (LoadI.mk c3 (LoadI.mk c4 (LoadI.mk c5 ?_)))))
      refine New.mk fun h5 _ hb5 x5 hs5 => Store.six hb5 fun h6 hb6 m6 s6 => ?_
      have x06 : Ext hh h6 := x5.more m6 fun c hc => by omega
      refine LoadI.mk (hget_lit hb6 rfl) (rInt_ok' (by omega) (by omega) fun h7 x7 => ⟨_, rfl, ?_⟩)
      have q1 := putV_len10 (n := x.kind.toNat) (by omega)
      refine ⟨by dsimp only; rw [strL_size, strL_size, max_i64]; omega, ?_⟩
      have hb7 := x7.blk hb6 (fun h => h)
      have x07 := x06.trans x7
      dsimp only
      rw [strL_app]
      refine LoadI.mk (hget_lit hb7 rfl) ?_
      have q2 := putV_len10 (n := x.tries.toNat) (by omega)
      have q3 := putV_len10 (n := x.undoTries.toNat) (by omega)
      have q4 := putV_len10 (n := x.wait.toNat) (by omega)
      have t1 := textL_len (s := x.name) (by omega)
      have t2 := textL_len (s := x.undo) (by omega)
      refine PIf.intro (fun hk => ?_) (fun hk => ?_)
      · have hk : x.kind = 1 := by simpa using hk
        refine LoadS.mk (hget_lit1 hb7 rfl) (rText_ok' (by omega) fun h8 x8 => ⟨_, rfl, ?_⟩)
        have hb8 := x8.blk hb7 (fun h => h)
        refine LoadI.mk (n := x.tries) (hget_lit1 hb8 rfl) ⟨hget_lit1 hb7 rfl, ?_⟩
        refine rInt_ok' (by omega) (by omega) fun h9 x9 => ⟨_, rfl, ⟨by rw [strL_size, strL_size, max_i64]; omega, ?_⟩⟩
        have hb9 := x9.blk hb8 (fun h => h)
        refine LoadS.mk (n := x.undo) (hget_lit1 hb9 rfl) ⟨hget_lit1 hb8 rfl, hget_lit1 hb7 rfl, ?_⟩
        refine rText_ok' (by omega) fun h10 x10 => ⟨_, rfl, ⟨by rw [strL_app, strL_size, strL_size, max_i64, List.length_append]; omega, ?_⟩⟩
        have hb10 := x10.blk hb9 (fun h => h)
        refine LoadI.mk (n := x.undoTries) (hget_lit1 hb10 rfl) ⟨hget_lit1 hb9 rfl, hget_lit1 hb8 rfl, hget_lit1 hb7 rfl, ?_⟩
        refine rInt_ok' (by omega) (by omega) fun h11 x11 => ⟨_, rfl, ⟨?_, ?_, ?_⟩⟩
        · rw [strL_app, strL_app, strL_size, strL_size, max_i64]; simp only [List.length_append]; omega
        · simp only [strL_app, strL_size, max_i64, List.length_append]; omega
        · have := fin h11 ((((x07.trans x8).trans x9).trans x10).trans x11)
          simp only [encStp] at this
          rw [if_pos hk] at this
          simp only [strL_app, List.append_assoc] at this ⊢
          exact this
      · have hk : x.kind ≠ 1 := by simpa using hk
        refine LoadI.mk (hget_lit hb7 rfl) ?_
        refine PIf.intro (fun hk2 => ?_) (fun hk2 => ?_)
        · have hk2 : x.kind = 2 := by simpa using hk2
          refine LoadI.mk (hget_lit1 hb7 rfl) (rInt_ok' (by omega) (by omega) fun h8 x8 => ⟨_, rfl, ⟨by rw [strL_size, strL_size, max_i64, List.length_append]; omega, ?_⟩⟩)
          have := fin h8 (x07.trans x8)
          simp only [encStp] at this
          rw [if_neg hk, if_pos hk2] at this
          simp only [strL_app, List.append_assoc] at this ⊢
          exact this
        · have hk2 : x.kind ≠ 2 := by simpa using hk2
          refine LoadS.mk (hget_lit1 hb7 rfl) (rText_ok' (by omega) fun h8 x8 => ⟨_, rfl, ⟨by rw [strL_size, strL_size, max_i64, List.length_append]; omega, ?_⟩⟩)
          have := fin h8 (x07.trans x8)
          simp only [encStp] at this
          rw [if_neg hk, if_neg hk2] at this
          simp only [strL_app, List.append_assoc] at this ⊢
          exact this
    · have hil : i = p.steps.length := by simp at hq2; omega
      have := H2 hh xh
      dsimp only
      rw [List.take_of_length_le (by omega)]
      exact this
end Go.Lf.G

/-
  Contracts: the document's programs back from bytes (chapter 12).
-/
set_option maxRecDepth 100000
set_option linter.unusedVariables false
set_option linter.unusedSimpArgs false
namespace Go.Lf.G
open Go

structure DecR (h : Heap) (b rb b1 : Nat) (lim : Int) (s : Sl) (l : List Stp) (hh : Heap) (r : Rd) : Prop where
  ext : Ext h hh
  zero : hh[b]? = some (.cells #[.slice none 0 0, .int .i64 0] t_api_Program (0, 0))
  rd : RrAt hh rb r
  var : hh[b1]? = some (.cells #[.slice s.p s.len s.cap, .int .i64 lim] t_api_Program (0, 0))
  own : Own StpE t_api_Step hh s l
  fresh : ∀ c, s.blk = some c → h.size ≤ c ∧ c ≠ b ∧ c ≠ rb ∧ c ≠ b1
  ne : h.size ≤ b ∧ h.size ≤ rb ∧ h.size ≤ b1 ∧ b ≠ rb ∧ b ≠ b1 ∧ rb ≠ b1
theorem DecR.read {h : Heap} {b rb b1 : Nat} {lim : Int} {s : Sl} {l : List Stp} {hh h2 : Heap} {r r2 : Rd} (D : DecR h b rb b1 lim s l hh r) (hr : RrAt h2 rb r2) (m : Mod (· = rb) hh h2) : DecR h b rb b1 lim s l h2 r2 :=
  ⟨D.ext.more m fun c hc => by subst hc; exact D.ne.2.1, m.blk D.zero D.ne.2.2.2.1, hr, m.blk D.var D.ne.2.2.2.2.2.symm, D.own.mod m fun c hc => (D.fresh c hc).2.2.1, D.fresh, D.ne⟩
theorem DecR.other {h : Heap} {b rb b1 c : Nat} {lim : Int} {s : Sl} {l : List Stp} {hh h2 : Heap} {r : Rd} (D : DecR h b rb b1 lim s l hh r) (m : Mod (· = c) hh h2) (hc : h.size ≤ c ∧ c ≠ b ∧ c ≠ rb ∧ c ≠ b1 ∧ s.blk ≠ some c) : DecR h b rb b1 lim s l h2 r :=
  ⟨D.ext.more m fun c' hc' => by subst hc'; exact hc.1, m.blk D.zero hc.2.1.symm, m.blk D.rd hc.2.2.1.symm, m.blk D.var hc.2.2.2.1.symm, D.own.mod m fun c' hc' e => hc.2.2.2.2 (by rw [hc', e]), D.fresh, D.ne⟩
theorem DecR.on {h : Heap} {b rb b1 : Nat} {lim : Int} {s : Sl} {l : List Stp} {hh h2 : Heap} {r : Rd} (D : DecR h b rb b1 lim s l hh r) (m : Ext hh h2) : DecR h b rb b1 lim s l h2 r :=
  ⟨D.ext.trans m, m.blk D.zero (fun h => h), m.blk D.rd (fun h => h), m.blk D.var (fun h => h), D.own.ext m, D.fresh, D.ne⟩
theorem DecR.new {h : Heap} {b rb b1 : Nat} {lim : Int} {s : Sl} {l : List Stp} {hh : Heap} {r : Rd} (D : DecR h b rb b1 lim s l hh r) : h.size ≤ hh.size ∧ hh.size ≠ b ∧ hh.size ≠ rb ∧ hh.size ≠ b1 ∧ s.blk ≠ some hh.size := by
  refine ⟨D.ext.size, ?_, ?_, ?_, fun hc => ?_⟩
  · have := blk_lt D.zero; omega
  · have := blk_lt D.rd; omega
  · have := blk_lt D.var; omega
  · have := D.own.lt hc; omega
theorem fine_rdStp {bk bt bw : Nat} {all : Bool} {r : Rd} (hf : r.Fine) : (rdStp bk bt bw all r).2.Fine := by
  have h1 := intR_fine (m := bk) hf
  unfold rdStp
  simp only
  split
  · exact intR_fine (textR_fine (intR_fine (textR_fine h1)))
  · split
    · exact intR_fine h1
    · split
      · exact textR_fine h1
      · exact h1
theorem sz_rdStp {bk bt bw : Nat} {all : Bool} (r : Rd) : (rdStp bk bt bw all r).1.name.size ≤ r.rest.length ∧ (rdStp bk bt bw all r).1.undo.size ≤ r.rest.length := by
  have h1 := len_intR bk r
  have z : bs0'.size = 0 := rfl
  unfold rdStp
  simp only
  split
  · have h2 := len_textR (intR bk r).2
    have h3 := len_intR bt (textR (intR bk r).2).2
    have h4 := len_textR (intR bt (textR (intR bk r).2).2).2
    simp only [strL_size]; omega
  · split
    · simp only; omega
    · split
      · have h2 := len_textR (intR bk r).2
        simp only [strL_size]; omega
      · simp only; omega

theorem rDecode12_ok {A : Amb} {h : Heap} {l : List UInt8} {R : Value → Heap → Prop} (hl : l.length < 1099511627776)
    (H : ∀ h' s, Ext h h' → (∀ p, decPrg l = some p → View StpE h' s p.steps) → R (resPrg (decPrg l) s) h') : HCalls A P f_wherryref12_Decode #[.string (strL l)] h R := by
  refine ok_wherryref12_Decode ?_
  unfold F_wherryref12_Decode
  refine New.mk fun h1 _ hb x1 hs1 => New.mk fun h2 _ hr2 x2 hs2 => New.mk fun h3 _ hb3 x3 hs3 => ?_
  have D3 : DecR h h.size h1.size h2.size 0 ⟨none, 0, 0⟩ [] h3 ⟨l, false⟩ :=
    ⟨(x1.trans x2).trans x3, x3.blk (x2.blk hb (fun h => h)) (fun h => h), x3.blk hr2 (fun h => h), hb3, Own.nil, fun c hc => by simp [Sl.blk] at hc, by omega, by omega, by omega, by omega, by omega, by omega⟩
  have f0 : Rd.Fine ⟨l, false⟩ := fun h => by cases h
  refine rRInt_ok (most := 1073741824) D3.rd f0 (by simp only; omega) (by decide) fun h4 hr4 m4 => ⟨_, rfl, ?_⟩
  have D4 := D3.read hr4 m4
  refine Store.at1 D4.var (by simp) rfl fun h5 hb5 m5 hs5 => ?_
  have f1 := intR_fine (m := 1073741824) f0
  have hl6 : (intR 1073741824 ⟨l, false⟩).2.rest.length ≤ l.length := len_intR 1073741824 ⟨l, false⟩
  have D5 : DecR h h.size h1.size h2.size ((intR 1073741824 ⟨l, false⟩).1 : Int) ⟨none, 0, 0⟩ [] h5 (intR 1073741824 ⟨l, false⟩).2 :=
    ⟨D4.ext.more m5 fun c hc => by omega, m5.blk D4.zero (by omega), m5.blk D4.rd (by omega), hb5, Own.nil, fun c hc => by simp [Sl.blk] at hc, D4.ne⟩
  refine rRInt_ok (most := 16) D5.rd f1 (by omega) (by decide) fun h7 hr7 m7 => ⟨_, rfl, ?_⟩
  have D7 := D5.read hr7 m7
  have f2 := intR_fine (m := 16) f1
  have hl7 := len_intR 16 (intR 1073741824 ⟨l, false⟩).2
  generalize hlim : (intR 1073741824 ⟨l, false⟩).1 = lim at *
  generalize hr1 : (intR 1073741824 ⟨l, false⟩).2 = r1 at *
  have hk16 : (intR 16 r1).1 ≤ 16 := by
    unfold intR
    split
    · exact Nat.zero_le _
    · split
      · exact Nat.zero_le _
      · omega
  have eP : rdPrg 1073741824 9 9 9999 true l = (⟨(rdStps 9 9 9999 true (intR 16 r1).1 (intR 16 r1).2).1, lim⟩, (rdStps 9 9 9999 true (intR 16 r1).1 (intR 16 r1).2).2) := by
    simp only [rdPrg, hlim, hr1]
  have eW := decPrg_wide (b0 := 1073741824) (bk := 9) (bt := 9) (bw := 9999) (all := true) (by decide) (by decide) (by decide) (by decide) l
  generalize hn : (intR 16 r1).1 = n at *
  generalize hb0 : h.size = b at *
  generalize hrb0 : h1.size = rb at *
  generalize hb10 : h2.size = b1 at *
  clear hb hr2 hb3 hr4 hb5 x1 x2 x3 m4 m5 m7 hs1 hs2 hs3 hs5 hr7 D3 D4 D5
  refine Loop.rule (fun m x hh => ∃ (i : Nat) (s : Sl) (ls : List Stp) (r : Rd), x = ((i : Int), ()) ∧ DecR h b rb b1 lim s ls hh r ∧ r.Fine ∧ m = n - i ∧ i ≤ n ∧ r.rest.length ≤ l.length ∧ ls.length = i ∧ (∀ x ∈ ls, x.name.size ≤ 1099511627776 ∧ x.undo.size ≤ 1099511627776) ∧
    rdPrg 1073741824 9 9 9999 true l = (⟨ls ++ (rdStps 9 9 9999 true (n - i) r).1, lim⟩, (rdStps 9 9 9999 true (n - i) r).2)) ?_ ⟨0, ⟨none, 0, 0⟩, [], (intR 16 r1).2, rfl, D7, f2, rfl, by omega, by omega, rfl, by simp, eP⟩
  rintro K m _ hh ⟨i, s, ls, r, rfl, D, hf, rfl, hin, hlr, hil, hsz, eP⟩ hK
  refine PIf.intro (fun hq => ?_) (fun hq => ?_)
  · have hi : i < n := by simp at hq; omega
    obtain ⟨k', hk'⟩ : ∃ k', n - i = k' + 1 := ⟨n - i - 1, by omega⟩
    refine New.mk fun h8 _ hb8 x8 hs8 => ?_
    have hc := D.new
    have D8 := D.on x8
    generalize hh.size = b3 at *
    refine rRInt_ok (most := 9) D8.rd hf (by omega) (by decide) fun h9 hr9 m9 => ⟨_, rfl, ?_⟩
    have D9 := D8.read hr9 m9
    have hb9 := m9.blk hb8 hc.2.2.1
    have fk := intR_fine (m := 9) hf
    have hl8 := len_intR 9 r
    refine Store.mk hb9 (by simp) fun h10 hb10 m10 hs10 => ?_
    have D10 := D9.other m10 hc
    refine Join.mk fun K1 hK1 => ?_
    have fin : ∀ (x : Stp) (r' : Rd) (hh' : Heap), DecR h b rb b1 lim s ls hh' r' → hh'[b3]? = some (.cells (StpCells x) t_api_Step (0, 0)) → rdStp 9 9 9999 true r = (x, r') → K1 () hh' := fun x r' hh' D' hb' e => by
      refine hK1 _ _ ?_
      refine LoadL.mk (s := s) (hget_lit D'.var rfl) ?_
      refine LoadI.mk (hget_lit hb' rfl) (LoadS.mk (hget_lit1 hb' rfl) (LoadS.mk (hget_lit1 hb' rfl) (LoadI.mk (hget_lit1 hb' rfl) (LoadI.mk (hget_lit1 hb' rfl) (LoadI.mk (hget_lit1 hb' rfl) ?_)))))
      refine New.append1 (E := StpE) (x := x) (s := s) (l := ls) rfl app_stp D'.own (by omega) (by simp [maxLen]; omega) fun s' h' o' m' hb' hn' => ?_
      have hsb : s.blk ≠ some b1 := fun hc => (D'.fresh _ hc).2.2.2 rfl
      have hsb0 : s.blk ≠ some b := fun hc => (D'.fresh _ hc).2.1 rfl
      have hsr : s.blk ≠ some rb := fun hc => (D'.fresh _ hc).2.2.1 rfl
      have fresh' : ∀ c, s'.blk = some c → h.size ≤ c ∧ c ≠ b ∧ c ≠ rb ∧ c ≠ b1 := fun c hc => by
        rcases hb' c hc with h1 | h1
        · exact D'.fresh c h1
        · have q1 := blk_lt D'.zero
          have q2 := blk_lt D'.rd
          have q3 := blk_lt D'.var
          have q4 := D'.ext.size
          omega
      refine Store.mk (m'.blk D'.var hsb) (by simp) fun h'' hb'' m'' hs'' => ?_
      dsimp only
      rw [wrap_succ (by omega)]
      have e' : rdStps 9 9 9999 true (n - i) r = (x :: (rdStps 9 9 9999 true (n - (i + 1)) r').1, (rdStps 9 9 9999 true (n - (i + 1)) r').2) := by
        rw [hk', show n - (i + 1) = k' by omega]
        simp only [rdStps, e]
      have hfr := fine_rdStp (bk := 9) (bt := 9) (bw := 9999) (all := true) hf
      have hszr := sz_rdStp (bk := 9) (bt := 9) (bw := 9999) (all := true) r
      have hlen := len_rdStp (bk := 9) (bt := 9) (bw := 9999) (all := true) r
      rw [e] at hfr hszr hlen
      refine hK (n - (i + 1)) _ _ (by omega) ⟨i + 1, s', ls ++ [x], r', rfl, ⟨?_, ?_, ?_, by simpa using hb'', ?_, fresh', D'.ne⟩, hfr, rfl, hi, by simp only at hlen; omega, by simp [hil], ?_, ?_⟩
      · exact (D'.ext.more m' fun c hc => (D'.fresh c hc).1).more m'' fun c hc => by subst hc; exact D'.ne.2.2.1
      · exact m''.blk (m'.blk D'.zero hsb0) D'.ne.2.2.2.2.1
      · exact m''.blk (m'.blk D'.rd hsr) D'.ne.2.2.2.2.2
      · exact o'.mod m'' fun c hc => (fresh' c hc).2.2.2
      · intro y hy
        rcases List.mem_append.1 hy with hy | hy
        · exact hsz y hy
        · obtain rfl := List.mem_singleton.1 hy
          simp only at hszr
          omega
      · rw [eP, e']; simp
    refine LoadI.mk (hget_lit hb10 rfl) ?_
    refine PIf.intro (fun hq1 => ?_) (fun hq1 => ?_)
    · have hk1 : (intR 9 r).1 = 1 := by simp at hq1; omega
      have hla := (len_textR (intR 9 r).2).1
      have hlb := len_intR 9 (textR (intR 9 r).2).2
      have fa := textR_fine fk
      have fb := intR_fine (m := 9) fa
      have fc := textR_fine fb
      refine rRText_ok D10.rd fk (by omega) fun h11 hr11 m11 => ⟨_, rfl, ?_⟩
      have D11 := D10.read hr11 m11
      have hb11 := m11.blk hb10 hc.2.2.1
      refine Store.at1 hb11 (by simp) rfl fun h12 hb12 m12 s12 => ?_
      have D12 := D11.other m12 hc
      refine rRInt_ok (most := 9) D12.rd fa (by omega) (by decide) fun h13 hr13 m13 => ⟨_, rfl, ?_⟩
      have D13 := D12.read hr13 m13
      have hb13 := m13.blk hb12 hc.2.2.1
      refine Store.at1 hb13 (by simp) rfl fun h14 hb14 m14 s14 => ?_
      have D14 := D13.other m14 hc
      refine rRText_ok D14.rd fb (by omega) fun h15 hr15 m15 => ⟨_, rfl, ?_⟩
      have D15 := D14.read hr15 m15
      have hb15 := m15.blk hb14 hc.2.2.1
      refine Store.at1 hb15 (by simp) rfl fun h16 hb16 m16 s16 => ?_
      have D16 := D15.other m16 hc
      have hlc := (len_textR (intR 9 (textR (intR 9 r).2).2).2).1
      refine rRInt_ok (most := 9) D16.rd fc (by omega) (by decide) fun h17 hr17 m17 => ⟨_, rfl, ?_⟩
      have D17 := D16.read hr17 m17
      have hb17 := m17.blk hb16 hc.2.2.1
      refine Store.at1 hb17 (by simp) rfl fun h18 hb18 m18 s18 => ?_
      refine fin ⟨1, strL (textR (intR 9 r).2).1, strL (textR (intR 9 (textR (intR 9 r).2).2).2).1, (intR 9 (textR (intR 9 r).2).2).1, (intR 9 (textR (intR 9 (textR (intR 9 r).2).2).2).2).1, 0⟩ _ h18 (D17.other m18 hc) ?_ ?_
      · rw [hb18, hk1]; rfl
      · simp only [rdStp]
        rw [if_pos hk1]
    · have hk1 : (intR 9 r).1 ≠ 1 := by simp at hq1; omega
      refine LoadI.mk (hget_lit hb10 rfl) ?_
      refine PIf.intro (fun hq2 => ?_) (fun hq2 => ?_)
      · have hk2 : (intR 9 r).1 = 2 := by simp at hq2; omega
        refine rRInt_ok (most := 9999) D10.rd fk (by omega) (by decide) fun h11 hr11 m11 => ⟨_, rfl, ?_⟩
        have D11 := D10.read hr11 m11
        have hb11 := m11.blk hb10 hc.2.2.1
        refine Store.at1 hb11 (by simp) rfl fun h12 hb12 m12 s12 => ?_
        refine fin ⟨2, bs0', bs0', 0, 0, (intR 9999 (intR 9 r).2).1⟩ _ h12 (D11.other m12 hc) ?_ ?_
        · rw [hb12, hk2]; rfl
        · simp only [rdStp]
          rw [if_neg hk1, if_pos hk2]
      · have hk2 : (intR 9 r).1 ≠ 2 := by simp at hq2; omega
        refine rRText_ok D10.rd fk (by omega) fun h11 hr11 m11 => ⟨_, rfl, ?_⟩
        have D11 := D10.read hr11 m11
        have hb11 := m11.blk hb10 hc.2.2.1
        refine Store.at1 hb11 (by simp) rfl fun h12 hb12 m12 s12 => ?_
        refine fin ⟨(intR 9 r).1, strL (textR (intR 9 r).2).1, bs0', 0, 0, 0⟩ _ h12 (D11.other m12 hc) ?_ ?_
        · rw [hb12]; rfl
        · simp only [rdStp]
          rw [if_neg hk1, if_neg hk2, if_pos (.inr trivial)]
  · have hin' : i = n := by simp at hq; omega
    rw [show n - i = 0 by omega] at eP
    simp only [rdStps, List.append_nil] at eP
    rw [eP] at eW
    refine LoadL.mk (s := s) (hget_lit D.var rfl) (LoadI.mk (hget_lit1 D.var rfl) ?_)
    refine rEncode12_ok (p := ⟨ls, lim⟩) D.own.view (by simp only; omega) hsz fun h8 x8 => ⟨_, _, rfl, ?_⟩
    have D8 := D.on x8
    refine Join.mk fun K2 hK2 => ?_
    have bad : decPrg l = none → K2 (true, ()) h8 := fun e => by
      refine hK2 _ _ (PIf.yes rfl ?_)
      refine Store.two D8.zero fun h9 hb9 m9 s9 => LoadL.mk (s := ⟨none, 0, 0⟩) (hget_lit hb9 rfl) (LoadI.mk (hget_lit1 hb9 rfl) ?_)
      have := H h9 ⟨none, 0, 0⟩ (D8.ext.more m9 fun c hc => by subst hc; exact D8.ne.1) (fun p hp => by rw [e] at hp; cases hp)
      rw [e] at this
      exact this
    cases hok : prgOK ⟨ls, lim⟩ with
    | false =>
      refine PIf.yes rfl (bad ?_)
      rw [eW, if_neg]
      rintro ⟨h1, _⟩
      rw [hok] at h1; cases h1
    | true =>
      refine PIf.no rfl (rREnd_ok D8.rd ⟨_, rfl, ?_⟩)
      refine PIf.intro (fun q => bad ?_) (fun q => ?_)
      · have q : endR r = false := by simpa using q
        rw [eW, if_neg]
        rintro ⟨_, h1, _⟩
        simp only at h1
        rw [q] at h1; cases h1
      · have q : endR r = true := by simpa using q
        simp only [if_true]
        rw [sEq_iff, decide_eq_decide.2 (strL_inj (a := encPrg ⟨ls, lim⟩) (b := l))]
        by_cases he : encPrg ⟨ls, lim⟩ = l
        · rw [if_pos ⟨hok, q, he⟩] at eW
          rw [decide_eq_true he]
          refine hK2 _ _ (PIf.no rfl ?_)
          refine LoadL.mk (s := s) (hget_lit D8.var rfl) (LoadI.mk (hget_lit1 D8.var rfl) ?_)
          refine Store.two D8.zero fun h9 hb9 m9 s9 => LoadL.mk (s := s) (hget_lit hb9 rfl) (LoadI.mk (hget_lit1 hb9 rfl) ?_)
          have := H h9 s (D8.ext.more m9 fun c hc => by subst hc; exact D8.ne.1) (fun p hp => by
            rw [eW] at hp
            obtain rfl := Option.some.inj hp
            exact (D8.own.mod m9 fun c hc => (D8.fresh c hc).2.1).view)
          rw [eW] at this
          exact this
        · rw [if_neg (fun hh => he hh.2.2)] at eW
          rw [decide_eq_false he]
          exact bad eW
end Go.Lf.G

/-
  Contracts: the document's events (chapter 13): histories alike; the fields of a kind.
-/
set_option maxRecDepth 100000
set_option linter.unusedVariables false
set_option linter.unusedSimpArgs false
namespace Go.Lf.G
open Go

theorem rSame13_ok {A : Amb} {h : Heap} {a b : Sl} {la lb : List Ev} {R : Value → Heap → Prop} (va : View EvE h a la) (vb : View EvE h b lb) (hl : la.length ≤ 1099511627776)
    (H : R (.bool (decide (la = lb))) h) : HCalls A P f_wherryref13_Same #[.slice a.p a.len a.cap, .slice b.p b.len b.cap] h R := by
  refine ok_wherryref13_Same ?_
  unfold F_wherryref13_Same
  rw [va.len, vb.len]
  refine PIf.intro (fun hc => ?_) (fun hc => ?_)
  · have : la ≠ lb := by rintro rfl; simp at hc
    simpa [this] using H
  · have hlen : la.length = lb.length := by simp at hc; omega
    refine Loop.rule (fun m x h1 => ∃ i : Nat, x = ((i : Int), ()) ∧ h1 = h ∧ m = la.length - i ∧ i ≤ la.length ∧ la.take i = lb.take i) ?_ ⟨0, rfl, rfl, rfl, by omega, by simp⟩
    rintro K m _ _ ⟨i, rfl, rfl, rfl, hi, he⟩ hK
    refine PIf.intro (fun hc => ?_) (fun hc => ?_)
    · have hi' : i < la.length := by simpa using hc
      rw [← va.len]
      refine va.idx (List.getElem?_eq_getElem hi') fun a1 _ c1 => ?_
      obtain ⟨p0, p1, p2, p3, p4, p5, p6, p7⟩ := ev_at c1
      refine LoadI.mk p0 (LoadI.mk p1 (LoadI.mk p2 (LoadI.mk p3 (LoadI.mk p4 (LoadI.mk p5 (LoadB.mk p6 (LoadS.mk p7 ?_)))))))
      rw [← vb.len]
      refine vb.idx (List.getElem?_eq_getElem (by omega)) fun a2 _ c2 => ?_
      obtain ⟨q0, q1, q2, q3, q4, q5, q6, q7⟩ := ev_at c2
      refine LoadI.mk q0 (LoadI.mk q1 (LoadI.mk q2 (LoadI.mk q3 (LoadI.mk q4 (LoadI.mk q5 (LoadB.mk q6 (LoadS.mk q7 ?_)))))))
      refine neEv ⟨_, rfl, ?_⟩
      refine PIf.intro (fun hne => ?_) (fun hne => ?_)
      · have hne : la[i] ≠ lb[i]'(by omega) := by simpa using hne
        have : la ≠ lb := by rintro rfl; exact hne rfl
        simpa [this] using H
      · have heq : la[i] = lb[i]'(by omega) := by simpa using hne
        dsimp only
        rw [wrap_succ (by omega)]
        refine hK (la.length - (i + 1)) _ _ (by omega) ⟨i + 1, rfl, rfl, rfl, hi', ?_⟩
        rw [List.take_succ_eq_append_getElem hi', List.take_succ_eq_append_getElem (show i < lb.length by omega), he, heq]
    · have hi' : i = la.length := by simp at hc; omega
      have : la = lb := by
        rw [List.take_of_length_le (by omega), List.take_of_length_le (by omega)] at he
        exact he
      simpa [this] using H


/-- the letters of a kind's fields -/
def ltrs (k : Int) : List UInt8 := (if flS k then [115] else []) ++ (if flR k then [114] else []) ++ (if flT k then [116] else []) ++ (if flU k then [117] else []) ++ (if k = 1 then [112] else if k = 12 then [110] else [])
theorem ltrs_all : (List.range 19).map (fun k : Nat => ltrs (k : Int)) = [[], [112], [], [114], [114], [114], [115, 117], [114, 116], [114, 116], [114, 116], [115], [114], [110], [], [], [], [], [], []] := by decide
theorem rfields_ok {A : Amb} {h : Heap} {k : Int} {R : Value → Heap → Prop} (H : ∀ h', Ext h h' → R (.tuple #[.string (strL (if inI k 1 18 then ltrs k else [])), .bool (inI k 1 18)]) h') : HCalls A P f_wherryref13_fields #[.int .i64 k] h R := by
  refine ok_wherryref13_fields ?_
  unfold F_wherryref13_fields
  refine New.mk fun h1 _ hb x1 _ => ?_
  have H1 := H h1 x1
  refine Join.mk fun K hK => ?_
  have key : ∀ bb : Bool, (bb = true ↔ ¬ (1 ≤ k ∧ k ≤ 18)) → K (bb, ()) h1 := fun bb hbb => by
    refine hK _ _ ?_
    refine PIf.intro (fun q => ?_) (fun q => ?_)
    · have e : inI k 1 18 = false := by unfold inI; exact decide_eq_false (hbb.1 q)
      rw [e] at H1
      exact H1
    · have hin : 1 ≤ k ∧ k ≤ 18 := Decidable.byContradiction fun hh => by
        have q : bb = false := q
        rw [hbb.2 hh] at q; cases q
      have e : inI k 1 18 = true := inI_iff.2 hin
      rw [e] at H1
      have hk : k = ((k.toNat : Nat) : Int) := by omega
      generalize k.toNat = n at *
      subst hk
      have hn : n < 19 := by omega
      have hv : View StrE h1 ⟨some ⟨h.size, 0, none⟩, 19, 19⟩ (((List.range 19).map fun k : Nat => ltrs (k : Int)).map strL) := by
        rw [ltrs_all]
        exact (Own.lit (E := StrE) (T := t_string) (l := ([[], [112], [], [114], [114], [114], [115, 117], [114, 116], [114, 116], [114, 116], [115], [114], [110], [], [], [], [], [], []] : List (List UInt8)).map strL) hb rfl (by simp [maxLen])).view
      refine hv.idx (i := n) (x := strL (ltrs (n : Int))) (by simp [hn]) fun a _ c => ?_
      exact LoadS.mk c.str H1
  refine PIf.intro (fun q => key _ ⟨fun _ => by simp at q; omega, fun _ => rfl⟩) (fun q => key _ ?_)
  simp at q
  simp
  omega
end Go.Lf.G

/-
  DERIVED: THE SHELF's CONTRACTS AT THIS DUMP, IN PLAIN WORDS (tools/lay-plain.mjs out of 'TryShelf.lean', which tools/lay-shelf.mjs wrote): THE SAME DECLARATIONS UNDER THE SAME NAMES: 'import', 'namespace', 'open', 'def', 'theorem' AND NOTHING ELSE: no command of the shelf's: FOR A HAND-IN. Each laying: the table of numbers ('.._ren') and one theorem, a field a fact of the dump's own or the kernel's comparison; each contract: ONE APPLICATION.
-/
namespace Go.Proofs
open Go.Shelf
def Try.lays144_ren : Go.Shelf.Ren := ⟨fun | 144 => 70 | 143 => 74 | 219 => 76 | 217 => 79 | 225 => 80 | 224 => 81 | 267 => 82 | 266 => 83 | 314 => 84 | n => n, fun | 9 => 9 | 4 => 4 | 3 => 3 | 5 => 5 | 46 => 89 | 146 => 119 | 51 => 69 | n => n, fun | 1 => 0 | n => n⟩
theorem Try.lays144 : Go.Proofs.Lays.n144 Try.prog Try.lays144_ren := {
  mixed := by kernel_rfl
  f143 := Try.func74.trans (congrArg some (by kernel_rfl))
  f144 := Try.func70.trans (congrArg some (by kernel_rfl))
  f217 := Try.func79.trans (congrArg some (by kernel_rfl))
  f219 := Try.func76.trans (congrArg some (by kernel_rfl))
  f224 := Try.func81.trans (congrArg some (by kernel_rfl))
  f225 := Try.func80.trans (congrArg some (by kernel_rfl))
  f266 := Try.func83.trans (congrArg some (by kernel_rfl))
  f267 := Try.func82.trans (congrArg some (by kernel_rfl))
  f314 := Try.func84.trans (congrArg some (by kernel_rfl))
  t3 := Try.underlying3
  a3 := Try.isAgg3
  z3 := Try.sizeOf3
  v3 := Try.zeroValue3
  t4 := Try.underlying4
  a4 := Try.isAgg4
  z4 := Try.sizeOf4
  v4 := Try.zeroValue4
  t5 := Try.underlying5
  a5 := Try.isAgg5
  z5 := Try.sizeOf5
  v5 := Try.zeroValue5
  t9 := Try.underlying9
  a9 := Try.isAgg9
  z9 := Try.sizeOf9
  v9 := Try.zeroValue9
  t46 := Try.underlying89
  a46 := Try.isAgg89
  z46 := Try.sizeOf89
  v46 := Try.zeroValue89
  t51 := Try.underlying69
  a51 := Try.isAgg69
  z51 := Try.sizeOf69
  v51 := Try.zeroValue69
  t146 := Try.underlying119
  a146 := Try.isAgg119
  z146 := Try.sizeOf119
  v146 := Try.zeroValue119
  g1 := by kernel_rfl }
end Go.Proofs

