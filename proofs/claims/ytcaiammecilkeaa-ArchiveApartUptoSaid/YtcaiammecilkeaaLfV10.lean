/-
  The law ArchiveApart (chapter 20) over its formula.
-/
import Derived.Test.YtcaiammecilkeaaLfV9
set_option maxRecDepth 100000
set_option linter.unusedVariables false
set_option linter.unusedSimpArgs false
namespace Go.Lf.G
open Go

theorem rNamed_ok {A : Amb} {h : Heap} {s : ByteArray} {R : Value → Heap → Prop} (hs : s.size ≤ 1099511627776) (H : R (.bool (nameOK s)) h) : HCalls A P f_wherryref12_Named #[.string s] h R := by
  refine ok_wherryref12_Named ?_
  unfold F_wherryref12_Named
  refine Loop.rule (fun m x hh => ∃ i : Nat, x = ((i : Int), ()) ∧ hh = h ∧ m = s.size - i ∧ i ≤ s.size ∧ ∀ c ∈ (bl s).take i, 33 ≤ c.toNat ∧ c.toNat ≤ 126) ?_ ⟨0, rfl, rfl, rfl, by omega, by simp⟩
  rintro K1 m _ hh ⟨i, rfl, e, rfl, hi, hall⟩ hK1
  subst hh
  refine PIf.intro (fun hq2 => ?_) (fun hq2 => ?_)
  · have hil : i < s.size := by simpa using hq2
    obtain ⟨c, hc⟩ : ∃ c, (bl s)[i]? = some c := ⟨_, List.getElem?_eq_getElem (by rw [bl_size]; exact hil)⟩
    have hmem : c ∈ bl s := List.mem_of_getElem? hc
    dsimp only
    rw [sAt_nat hc]
    refine Join.mk fun K2 hK2 => ⟨⟨by omega, by omega⟩, ?_⟩
    have key2 : ∀ b2 : Bool, (b2 = true ↔ ¬ (33 ≤ c.toNat ∧ c.toNat ≤ 126)) → K2 (b2, ()) h := fun b2 hb2 => by
      refine hK2 _ _ ?_
      refine PIf.intro (fun hq => ?_) (fun hq => ?_)
      · have e : nameOK s = false := by
          rw [Bool.eq_false_iff]
          intro hn
          exact hb2.1 hq ((nameOK_iff.1 hn).2.2 c hmem)
        rw [e] at H; exact H
      · rw [wrap_succ (by omega)]
        refine hK1 (s.size - (i + 1)) _ _ (by omega) ⟨i + 1, rfl, rfl, rfl, hil, fun x hx => ?_⟩
        rw [List.take_add_one, hc, Option.toList_some] at hx
        rcases List.mem_append.1 hx with hx | hx
        · exact hall x hx
        · simp at hx; subst hx
          have hq : b2 = false := hq
          exact Decidable.byContradiction fun hh => by rw [hb2.2 hh] at hq; cases hq
    refine PIf.intro (fun hq3 => key2 _ ⟨fun _ => by simp at hq3; omega, fun _ => rfl⟩) (fun hq3 => ⟨⟨by omega, by omega⟩, key2 _ ⟨fun h4 => by simp at h4; omega, fun h4 => by simp at hq3; simp; omega⟩⟩)
  · have hil : i = s.size := by simp at hq2; omega
    rw [List.take_of_length_le (by rw [bl_size]; omega)] at hall
    have e : nameOK s = (decide (1 ≤ s.size) && decide (s.size ≤ 16)) := by
      rw [Bool.eq_iff_iff, nameOK_iff]
      simp only [Bool.and_eq_true, decide_eq_true_eq]
      exact ⟨fun h => ⟨h.1, h.2.1⟩, fun h => ⟨h.1, h.2, hall⟩⟩
    rw [e] at H
    refine PIf.intro (fun q => ?_) (fun q => ?_)
    · have h1 : 1 ≤ s.size := by simp at q; omega
      rw [decide_eq_true h1, Bool.true_and] at H
      have e : decide ((s.size : Int) ≤ (16 : Int)) = decide (s.size ≤ 16) := by rw [decide_eq_decide]; omega
      rw [e]; exact H
    · have h1 : ¬ 1 ≤ s.size := by simp at q; omega
      rw [decide_eq_false h1, Bool.false_and] at H
      exact H

theorem read_congr {m m' : Bx} (c : Calm m) (c' : Calm m') {w : ByteArray} (h : fileB m' (zn w) = fileB m (zn w)) : readA m' w = readA m w := by
  have : readB m' (zn w) = readB m (zn w) := by rw [calm_read c, calm_read c', h]
  unfold readA
  rw [this]
theorem P_msi : P.underlying t_map_string_int = some (.map t_string t_int) := by kernel_rfl
def evN (k : Nat) : List Ev := (List.range k).map fun i : Nat => evS ((i : Int) + 1) 13
theorem evN_succ (k : Nat) : evN (k + 1) = evN k ++ [evS ((k : Int) + 1) 13] := by simp [evN, List.range_succ]
theorem evN_len (k : Nat) : (evN k).length = k := by simp [evN]
theorem evN_ok {k : Nat} (hk : k ≤ 30) : (evN k).all evOK = true ∧ ∀ e ∈ evN k, e.data.size = 0 := by
  constructor
  · rw [List.all_eq_true]
    intro e he
    obtain ⟨i, hi, rfl⟩ := List.mem_map.1 he
    rw [List.mem_range] at hi
    exact (evS_ok (id := (i : Int) + 1) ⟨by omega, by omega⟩).2
  · intro e he
    obtain ⟨i, hi, rfl⟩ := List.mem_map.1 he
    rfl
theorem count_ok (n : Int) : ∃ k : Nat, 1 ≤ k ∧ k ≤ 30 ∧ IntKind.wrap .i64 (((IntKind.wrap .i64 ((n.tmod (30 : Int)) + (30 : Int))).tmod (30 : Int)) + (1 : Int)) = (k : Int) := by
  have h1 := Int.tmod_lt_of_pos n (b := 30) (by decide)
  have h2 := Int.lt_tmod_of_pos n (b := 30) (by decide)
  generalize n.tmod 30 = a at *
  rw [wrap_i64 (n := a + 30) (by omega) (by omega)]
  have h3 := Int.tmod_lt_of_pos (a + 30) (b := 30) (by decide)
  have h4 := Int.tmod_nonneg (a := a + 30) 30 (by omega)
  generalize (a + 30).tmod 30 = c at *
  rw [wrap_i64 (n := c + 1) (by omega) (by omega)]
  exact ⟨(c + 1).toNat, by omega, by omega, by omega⟩

/-- what is kept, and what the map says of it -/
def Kept (m : Bx) (lm : List (ByteArray × Value)) : Prop := ∀ p ∈ lm, p.1.size ≤ 1099511627776 ∧ ∃ k : Nat, p.2 = .int .i64 (k : Int) ∧ readA m p.1 = (0, evN k)
theorem app_ev' : appB P t_sl_api_Event t_api_Event EvE.w 72 = true := app_ev
theorem updM_len (k : ByteArray) (v : Value) : ∀ m : List (ByteArray × Value), (updM k v m).length ≤ m.length + 1
  | [] => by simp [updM]
  | p :: m => by
    unfold updM
    split
    · simp
    · have := updM_len k v m; simp; omega

structure Arch (h : Heap) (ab b mb : Nat) (hh : Heap) (S : Nat → Prop) (m : Bx) (lm : List (ByteArray × Value)) (i : Nat) : Prop where
  box : IsBox hh b S m
  calm : Calm m
  arc : hh[ab]? = some (.cells #[ptrV b] t_archive_Archive (0, 0))
  map : MapS hh mb lm
  ext : Ext h hh
  fresh : ∀ c, S c → h.size ≤ c ∧ c ≠ ab ∧ c ≠ mb
  ne : ab ≠ mb ∧ h.size ≤ mb
  wt : wtF m.files ≤ i * 2000000
  len : lm.length ≤ i
  kept : Kept m lm
theorem Arch.on {h : Heap} {ab b mb : Nat} {hh h2 : Heap} {S : Nat → Prop} {m : Bx} {lm : List (ByteArray × Value)} {i : Nat} (a : Arch h ab b mb hh S m lm i) (x : Ext hh h2) : Arch h ab b mb h2 S m lm i :=
  ⟨a.box.ext x, a.calm, x.blk a.arc (fun h => h), a.map.mod x (fun h => h), a.ext.trans x, a.fresh, a.ne, a.wt, a.len, a.kept⟩

theorem ArchiveApart_ok {A : Amb} {h : Heap} {wids sigs : Sl} {l : List ByteArray} {sg : List Int} {R : Value → Heap → Prop} (v : View StrE h wids l) (v2 : View IntE h sigs sg) (hl : l.length ≤ 1099511627776) (hl2 : sg.length ≤ 1099511627776) (hw : ∀ x ∈ l, x.size ≤ 4194304)
    (H : ∀ h', Ext h h' → R (.bool true) h') : HCalls A P f_wherrylaw20_ArchiveApart #[.slice wids.p wids.len wids.cap, .slice sigs.p sigs.len sigs.cap] h R := by
  refine ok_wherrylaw20_ArchiveApart ?_
  unfold F_wherrylaw20_ArchiveApart
  refine awake20_ok fun h1 x1 => ⟨_, rfl, PIf.no rfl ?_⟩
  rw [v.len]
  refine PIf.intro (fun hq => H h1 x1) (fun hq => ?_)
  have h20 : l.length ≤ 20 := by simp at hq; omega
  refine bNew_ok fun b h2 S B x2 hS => ⟨_, rfl, ?_⟩
  refine aNew_ok fun h3 ha x3 hs3 => ⟨_, rfl, ?_⟩
  refine New.mk fun h4 _ hm x4 hs4 => ?_
  have hx1 := x1.size
  have hx2 := x2.size
  have A0 : Arch h h2.size b h3.size h4 S newB [] 0 := by
    refine ⟨(B.ext x3).ext x4, calm_new, x4.blk ha (fun h => h), MapS.empty hm, ((x1.trans x2).trans x3).trans x4, fun c hc => ?_, ⟨by omega, by omega⟩, by simp [newB, wtF], by simp, fun p hp => by cases hp⟩
    have := B.lt hc
    have := hS c hc
    omega
  generalize h2.size = ab at *
  generalize h3.size = mb at *
  refine Loop.rule (fun n x hh => ∃ (i : Nat) (S : Nat → Prop) (m : Bx) (lm : List (ByteArray × Value)), x = ((i : Int), ()) ∧ Arch h ab b mb hh S m lm i ∧ i ≤ l.length ∧ n = l.length - i) ?_ ⟨0, S, newB, [], rfl, A0, by omega, rfl⟩
  clear A0 ha hm x3 x4 B hS hx1 hx2 x1 x2 hs3 hs4
  rintro K n _ hh ⟨i, S, m, lm, rfl, Ar, hi, rfl⟩ hK
  refine PIf.intro (fun hq2 => ?_) (fun hq2 => ?_)
  · have hil : i < l.length := by simpa using hq2
    obtain ⟨w, hwi⟩ : ∃ w, l[i]? = some w := ⟨_, List.getElem?_eq_getElem hil⟩
    have hws := hw w (List.mem_of_getElem? hwi)
    refine Join.mk fun K1 hK1 => ?_
    have fin : ∀ (S' : Nat → Prop) (m' : Bx) (lm' : List (ByteArray × Value)) (h' : Heap), Arch h ab b mb h' S' m' lm' (i + 1) → K1 () h' := fun S' m' lm' h' a => by
      refine hK1 _ _ ?_
      dsimp only
      rw [wrap_succ (by omega)]
      exact hK (l.length - (i + 1)) _ _ (by omega) ⟨i + 1, S', m', lm', rfl, a, hil, rfl⟩
    rw [← v.len]
    refine (v.ext Ar.ext).idx hwi fun a _ c => ?_
    refine LoadS.mk c.str ?_
    rw [v2.len]
    refine Join.mk fun K2 hK2 => ?_
    have main : ∀ k : Nat, 1 ≤ k → k ≤ 30 → K2 ((k : Int), ()) hh := fun k hk1 hk2 => by
      refine hK2 _ _ ?_
      refine Loop.rule (fun n x h' => ∃ (j : Nat) (s : Sl), x = (s, (j : Int), ()) ∧ Ext hh h' ∧ Own EvE t_api_Event h' s (evN j) ∧ (∀ c, s.blk = some c → hh.size ≤ c) ∧ j ≤ k ∧ n = k - j) ?_ ⟨0, ⟨none, 0, 0⟩, rfl, Mod.refl, Own.nil, fun c hc => by simp [Sl.blk] at hc, by omega, rfl⟩
      rintro K3 n _ h5 ⟨j, s, rfl, x5, o5, f5, hj, rfl⟩ hK3
      refine PIf.intro (fun hq3 => ?_) (fun hq3 => ?_)
      · have hjk : j < k := by simp at hq3; omega
        refine New.append1 (E := EvE) (x := evS ((j : Int) + 1) 13) (s := s) (l := evN j) (by dsimp only; rw [wrap_i64 (n := (j : Int) + 1) (by omega) (by omega)]; rfl) app_ev o5 (by rw [evN_len]; omega) (by rw [evN_len]; simp [maxLen]; omega) fun s' h6 o6 m6 b6 n6 => ?_
        dsimp only
        rw [wrap_succ (by omega)]
        refine hK3 (k - (j + 1)) _ _ (by omega) ⟨j + 1, s', rfl, x5.more m6 f5, by rw [evN_succ]; exact o6, fun c hc => ?_, hjk, rfl⟩
        rcases b6 c hc with h | h
        · exact f5 c h
        · have := x5.size; omega
      · have hjk : j = k := by simp at hq3; omega
        subst hjk
        have A5 := Ar.on x5
        obtain ⟨e1, e2⟩ := evN_ok hk2
        have hlen := evN_len j
        have hd : ∀ e ∈ evN j, e.data.size ≤ 4194304 := fun e he => by have := e2 e he; omega
        have hwt := A5.wt
        have himul : i * 2000000 ≤ 20 * 2000000 := Nat.mul_le_mul_right _ (by omega)
        refine aKeep_ok (s := s) (l := evN j) A5.arc A5.box A5.calm (fun hc => (A5.fresh _ hc).2.1 rfl) (by omega) (by omega) o5.view (fun c hc => ⟨fun hs => ?_, o5.lt hc⟩) (by omega) hd (fun hne h6 x6 => ⟨_, rfl, ?_⟩) fun hk0 h6 S6 m6 B6 c6 md6 s6 fl6 w6 => ⟨_, rfl, ?_⟩
        · have := Ar.box.lt hs
          have := f5 c hc
          omega
        · -- it is refused: the name is none
          have hn : nameOK w = false := by
            cases hn : nameOK w with
            | false => rfl
            | true => exact absurd (keep_small hn (l := evN j) (by rw [hlen]; omega) e1 e2) hne
          have hke : keepE w (evN j) = 1 := by unfold keepE; rw [hn, if_neg (by decide)]
          rw [hke]
          refine PIf.no rfl (Join.mk fun K4 hK4 => PIf.no rfl ?_)
          refine rNamed_ok (by omega) ⟨_, rfl, hK4 _ _ ?_⟩
          rw [hn]
          refine PIf.no rfl (fin S m lm h6 ?_)
          have a6 := A5.on x6
          exact ⟨a6.box, a6.calm, a6.arc, a6.map, a6.ext, a6.fresh, a6.ne, Nat.le_trans a6.wt (Nat.mul_le_mul_right _ (Nat.le_succ i)), Nat.le_succ_of_le a6.len, a6.kept⟩
        · refine PIf.yes rfl ?_
          have hmb5 := A5.map.lt
          have hS6 : ∀ c, S6 c → h.size ≤ c ∧ c ≠ ab ∧ c ≠ mb := fun c hc => by
            rcases s6 c hc with h | h
            · exact A5.fresh c h
            · have q := blk_lt A5.arc
              have q2 := A5.ext.size
              omega
          have M6 : MapS h6 mb lm := A5.map.mod md6 fun hs => (A5.fresh _ hs).2.2 rfl
          have hlm := A5.len
          refine update_ok P_msi P_str M6 (by simp [maxLen]; omega) (by simp [maxLen]; omega) fun h7 M7 m7 hs7 => fin S6 m6 (updM w (.int .i64 (j : Int)) lm) h7 ?_
          refine ⟨B6.mod m7 fun c hc => (hS6 c hc).2.2, c6, m7.blk (md6.blk A5.arc fun hs => (A5.fresh _ hs).2.1 rfl) Ar.ne.1, M7, ?_, hS6, Ar.ne, by omega, by have := updM_len w (.int .i64 (j : Int)) lm; omega, ?_⟩
          · exact (A5.ext.more md6 fun c hc => (A5.fresh c hc).1).more m7 fun c hc => by subst hc; exact Ar.ne.2
          · have hread : readA m6 w = (0, evN j) := read_kept c6 hk0 hd (by rw [fl6, if_pos rfl])
            have old : ∀ p ∈ lm, p.1 ≠ w → p.1.size ≤ 1099511627776 ∧ ∃ k : Nat, p.2 = .int .i64 (k : Int) ∧ readA m6 p.1 = (0, evN k) := fun p hp hne => by
              obtain ⟨q1, k, q2, q3⟩ := A5.kept p hp
              refine ⟨q1, k, q2, ?_⟩
              rw [read_congr A5.calm c6 (by rw [fl6, if_neg (fun hz => hne (zn_inj hz))]), q3]
            have all : ∀ lm : List (ByteArray × Value), (lm.map (·.1)).Nodup → (∀ p ∈ lm, p.1 ≠ w → p.1.size ≤ 1099511627776 ∧ ∃ k : Nat, p.2 = .int .i64 (k : Int) ∧ readA m6 p.1 = (0, evN k)) → Kept m6 (updM w (.int .i64 (j : Int)) lm) := by
              intro lm
              induction lm with
              | nil =>
                intro _ _ p hp
                simp only [updM, List.mem_singleton] at hp
                subst hp
                exact ⟨by simp only; omega, j, rfl, hread⟩
              | cons q lm ih =>
                intro hnd ho p hp
                unfold updM at hp
                simp only [List.map_cons, List.nodup_cons] at hnd
                split at hp
                · rename_i hqw
                  rcases List.mem_cons.1 hp with rfl | hp
                  · exact ⟨by simp only; omega, j, rfl, hread⟩
                  · refine ho p (List.mem_cons_of_mem _ hp) fun hpw => hnd.1 ?_
                    rw [hqw, ← hpw]
                    exact List.mem_map.2 ⟨p, hp, rfl⟩
                · rename_i hqw
                  rcases List.mem_cons.1 hp with rfl | hp
                  · exact ho p (by simp) hqw
                  · exact ih hnd.2 (fun x hx => ho x (List.mem_cons_of_mem _ hx)) p hp
            obtain ⟨es, clock, hes, M⟩ := M6
            exact all lm M.nodup old
    refine PIf.intro (fun hq3 => ?_) (fun hq3 => ?_)
    · have hsg : i < sg.length := by simpa using hq3
      obtain ⟨n, hn⟩ : ∃ n, sg[i]? = some n := ⟨_, List.getElem?_eq_getElem hsg⟩
      rw [← v2.len]
      refine (v2.ext Ar.ext).idx hn fun a2 _ c2 => ?_
      refine LoadI.mk c2.int ?_
      obtain ⟨k, k1, k2, ek⟩ := count_ok n
      rw [ek]
      exact main k k1 k2
    · exact main 1 (by decide) (by decide)
  · have hil : i = l.length := by simp at hq2; omega
    have hwt := Ar.wt
    have himul : i * 2000000 ≤ 20 * 2000000 := Nat.mul_le_mul_right _ (by omega)
    refine range_ok P_msi Ar.map fun h5 I5 x5 hs5 => ⟨_, rfl, ?_⟩
    have A5 := Ar.on x5
    generalize hr : hh.size = r at *
    refine Loop.rule (fun n x h' => ∃ k : Nat, MapIter h' r mb lm k ∧ Arch h ab b mb h' S m lm i ∧ n = k ∧ (∀ c, S c → c ≠ r) ∧ r ≠ ab ∧ h.size ≤ r) ?_ ⟨lm.length, I5, A5, rfl, ?_, ?_, ?_⟩
    · rintro K5 n _ h6 ⟨k, I, a6, hn, f1, f2, f3⟩ hK5
      refine next_ok I (.inl ⟨rfl, H h6 a6.ext⟩) fun p hp h7 n' S7 hlt m7 => .inr ⟨_, _, rfl, ?_⟩
      have I7 := S7.iter
      have a7 : Arch h ab b mb h7 S m lm i := ⟨a6.box.mod m7 f1, a6.calm, m7.blk a6.arc f2.symm, a6.map.mod m7 I.ne.symm, a6.ext.more m7 fun c hc => by subst hc; exact f3, a6.fresh, a6.ne, a6.wt, a6.len, a6.kept⟩
      obtain ⟨q1, kk, q2, q3⟩ := a7.kept p hp
      refine entry_ok S7 ⟨_, _, rfl, _, rfl, (kk : Int), q2, ?_⟩
      refine aEvents_ok a7.arc a7.box (by omega) q1 fun h8 s8 x8 v8 l8 => ⟨s8, _, rfl, ?_⟩
      rw [q3] at v8 ⊢
      refine Join.mk fun K7 hK7 => PIf.no rfl (hK7 _ _ ?_)
      have hl8 : s8.len = kk := by rw [v8.len]; exact evN_len kk
      refine PIf.no (by rw [hl8]; simp) ?_
      exact hK5 n' _ _ (by omega) ⟨n', I7.mod x8 (fun h => h) (fun h => h), a7.on x8, rfl, f1, f2, f3⟩
    · intro c hc e
      have := Ar.box.lt hc
      omega
    · have := blk_lt Ar.arc
      omega
    · have := Ar.ext.size
      omega
end Go.Lf.G
