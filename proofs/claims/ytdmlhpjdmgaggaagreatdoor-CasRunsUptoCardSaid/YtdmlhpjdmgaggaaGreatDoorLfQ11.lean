/-
 The law CasRuns (chapter 10) over its formula.
-/
import Derived.Test.YtdmlhpjdmgaggaaGreatDoorLfGLCasRuns
import Derived.Test.YtdmlhpjdmgaggaaGreatDoorLfQ10
set_option linter.unusedVariables false
set_option linter.unusedSimpArgs false
set_option maxRecDepth 100000
set_option linter.unusedVariables false
set_option linter.unusedSimpArgs false
namespace Go.Lf.G
open Go
open M (Sorted Ah Dr BM Ao BG Cj A7 OkL Bl atK Bz)
structure OQ (h : Heap) (k : Nat → Nat) (s bm : Nat) (sm : Sl) (mp : List Pr) (n : Nat) : Prop where
 cell : h[bm]? = some (.cells #[.slice sm.p sm.len sm.cap, .int .i64 (n : Int)] BR (0, 0))
 kz : k bm = 0
 view : View Aq h sm mp
 blk : ∀ c, sm.blk = some c → k c = 0 ∧ c < h.size ∧ c ≠ bm ∧ c ≠ s
 ne : bm ≠ s
theorem OQ.lt {h : Heap} {k : Nat → Nat} {s bm n : Nat} {sm : Sl} {mp : List Pr} (M : OQ h k s bm sm mp n) : bm < h.size := Ak M.cell
theorem OQ.step {h h' : Heap} {k k' : Nat → Nat} {s s' bm n : Nat} {sm : Sl} {mp : List Pr} {S : Nat → Prop} (M : OQ h k s bm sm mp n) (md : Mod S h h') (hS : ∀ c, S c → k c ≠ 0 ∨ h.size ≤ c ∨ c = s) (hk : ∀ c, k' c ≠ 0 → k c ≠ 0 ∨ h.size ≤ c) (hs : s' = s ∨ h.size ≤ s') : OQ h' k' s' bm sm mp n := by
 have hl := M.lt
 have sz := md.size
 have nk : ∀ c, k c = 0 → c < h.size → k' c = 0 := fun c h1 h2 => Decidable.byContradiction fun h3 => by
  rcases hk c h3 with h4 | h4
  ·exact h4 h1
  ·omega
 have ns : ∀ c, k c = 0 → c < h.size → c ≠ s → ¬ S c := fun c h1 h2 h5 h3 => by
  rcases hS c h3 with h4 | h4 | h4
  ·exact h4 h1
  ·omega
  ·exact h5 h4
 refine ⟨md.blk M.cell (ns _ M.kz hl M.ne), nk _ M.kz hl, M.view.mod md fun c hc => ns _ (M.blk c hc).1 (M.blk c hc).2.1 (M.blk c hc).2.2.2, fun c hc => ?_, ?_⟩
 ·obtain ⟨e1, e2, e3, e4⟩ := M.blk c hc
  refine ⟨nk _ e1 e2, by omega, e3, ?_⟩
  rcases hs with rfl | h
  ·exact e4
  ·omega
 ·rcases hs with rfl | h
  ·exact M.ne
  ·omega
theorem OQ.ext {h h' : Heap} {k : Nat → Nat} {s bm n : Nat} {sm : Sl} {mp : List Pr} (M : OQ h k s bm sm mp n) (x : Ext h h') : OQ h' k s bm sm mp n := M.step x (fun _ h => h.elim) (fun _ h => .inl h) (.inl rfl)
theorem AIS {m : List Pr} {most : Nat} (h : m.length ≤ most) : LM m ⟨#[]⟩ ⟨#[]⟩ (most : Int) = m := by
 have e1 : maxS ⟨#[]⟩ ⟨#[]⟩ = ⟨#[]⟩ := by unfold maxS; split <;> rfl
 have e2 : KT ⟨#[]⟩ = ⟨#[]⟩ := rfl
 rw [← ACu, e1, e2]
 exact AHN h
theorem AIR {m : List Pr} {p f : ByteArray} {most : Int} : (LM m p f most).length ≤ m.length := by
 unfold LM
 have := List.length_filter_le (fun x => Ps p x.key && !sLt x.key f) m
 rw [List.length_take]; omega
theorem ADe {A : Amb} {h : Heap} {calls : Sl} {cs : List WM} {N : Nat} {R : Value → Heap → Prop} (E : Evn h) (v : View Ql h calls cs) (hc : ∀ x ∈ cs, ∃ cl l, SB N h x cl l) (hN : N ≤ 1048576) (H : ∀ h', Ext h h' → R (.bool true) h') : AA A P FV #[.slice calls.p calls.len calls.cap] h R := by
 refine NM ?_
 unfold FX
 refine VS E fun h1 x1 => ⟨_, rfl, PIf.no rfl ?_⟩
 rw [v.len]
 refine PIf.intro (fun hq => H h1 x1) (fun hq => ?_)
 have hcl : cs.length ≤ 200 := by have := of_decide_eq_false hq; omega
 refine VH fun b h2 Sb B2 x2 f2 => ⟨_, rfl, ?_⟩
 have x02 := x1.trans x2
 have sz1 := x1.size
 refine TA (B := Um) E B2 x02 (fun c hc => by have := f2 c hc; omega) rfl rfl (fun n => rfl) (fun n => rfl) (fun x hx => absurd rfl hx) (by decide) (by decide) fun h3 s q3 k3 st3 m3 D3 eb3 C3 mp3 md3 kk3 hs => ⟨_, _, rfl, PIf.no rfl ?_⟩
 have hg3 : h.size ≤ h3.size := C3.db.mem.ext.size
 have hs3 := C3.lt
 refine New.mk fun h4 _ hb4 x4 s4 => ?_
 have M4 : OQ h4 k3 s h3.size ⟨none, 0, 0⟩ (Bg st3) 0 := ⟨hb4, C3.db.free (Nat.le_refl _), by rw [mp3]; exact View.nil, fun c hc => by simp [Sl.blk] at hc, by omega⟩
 generalize hbm : h3.size = bm at *
 refine Loop.rule (fun mm x hh => ∃ (i n s : Nat) (q : Hp) (k : Nat → Nat) (st : Db) (m : Bx) (D : BF) (sm : Sl), x = (some ⟨q.b, 0, none⟩, some ⟨s, 0, none⟩, (i : Int), ()) ∧ Dz Um h hh s q k st m D (1 + 3 * i) (64 * i) n ∧ OQ hh k s bm sm (Bg st) n ∧ n ≤ i ∧ i ≤ cs.length ∧ mm = cs.length - i) ?_
  ⟨0, 0, s, q3, k3, st3, m3, D3, ⟨none, 0, 0⟩, by rw [eb3]; rfl, C3.on x4, M4, Nat.le_refl _, Nat.zero_le _, rfl⟩
 rintro K mm _ hh ⟨i, n, s, q, k, st, m, D, sm, rfl, C, Mr, hn, hi, rfl⟩ hK
 dsimp only
 obtain ⟨l1, l2, l3, l4⟩ := C.db.frlen
 have srt := C.db.sorted
 refine PIf.intro (fun hq => ?_) (fun hq => ?_)
 ·have hil : i < cs.length := by have := of_decide_eq_true hq; omega
  have hget : cs[i]? = some cs[i] := List.getElem?_eq_getElem hil
  obtain ⟨cl, l, ck⟩ := hc cs[i] (List.getElem_mem hil)
  generalize cs[i] = cc at *
  rw [← v.len]
  refine (v.ext C.db.mem.ext).idx hget fun a _ c0 => ?_
  obtain ⟨c0, c1, c2, c3, c4, c5, c6⟩ := ABP c0
  refine Aa.mk c0 (AU.mk (s := cc.cs) c1 (AU.mk (s := cc.bs) c2 (AC.mk c3 (AC.mk c4 (Aa.mk c5 (AZ.mk c6 ?_))))))
  clear c0 c1 c2 c3 c4 c5 c6
  refine New.copy7 fun bb h6 ebb hb6 x6 s6 => ?_
  refine Aa.mk (AJ hb6 rfl) ?_
  have C6 := C.on x6
  have M6 := Mr.ext x6
  have xg := C6.db.mem.ext
  have vc := ck.cs.ext xg
  have vb := ck.bs.ext xg
  have hkey := ck.key
  have kbb : k bb = 0 := by rw [ebb]; exact C.db.free (Nat.le_refl _)
  have hsbb : s < bb := by rw [ebb]; exact C.lt
  have hkeys : ∀ x ∈ cl, x.key.size ≤ 1099511627776 := fun x hx => by have := ck.keys x hx; omega
  have hs6 := C6.lt
  have hgb : h.size ≤ bm := by omega
  refine Join.mk fun K1 hK1 => ?_
  have fin : ∀ h' s' q' k' st' m' D' age' c' n' sm', Dz Um h h' s' q' k' st' m' D' age' c' n' → OQ h' k' s' bm sm' (Bg st') n' → age' ≤ 1 + 3 * (i + 1) → c' ≤ 64 * (i + 1) → n' ≤ i + 1 → ∀ bx sx, bx = q'.b → sx = s' → K1 (some ⟨bx, 0, none⟩, some ⟨sx, 0, none⟩, ()) h' := fun h' s' q' k' st' m' D' age' c' n' sm' C' M' ha hcc hn' bx sx ebx esx => by
   subst ebx esx
   refine hK1 _ _ (Tv C' ⟨_, rfl, Aa.mk (AB M'.cell rfl) ⟨AB M'.cell rfl, PIf.no (by simp) ?_⟩⟩)
   dsimp only
   rw [AQ (by omega)]
   exact hK (cs.length - (i + 1)) _ _ (by omega) ⟨i + 1, n', _, q', k', st', m', D', sm', rfl, C'.put ha hcc (by show 64 * (i + 1) ≤ 12800; omega), M', hn', hil, rfl⟩
  clear hK1 hK
  refine PIf.intro (fun h0 => ?_) (fun h0 => PIf.intro (fun h1 => ?_) (fun h1 => PIf.intro (fun h2 => ?_) (fun h2 => PIf.intro (fun h3 => ?_) (fun h3 => PIf.intro (fun h4 => ?_) fun h4 => ?_))))
  ·refine AU.mk (s := sm) (AJ M6.cell rfl) (Aa.mk (AB M6.cell rfl) (AU.mk (s := cc.cs) (AB hb6 rfl) (AU.mk (s := cc.bs) (AB hb6 rfl) ?_)))
   refine AJN (s := sm) (conds := cc.cs) (sl := cc.bs) M6.view (fun c hc => (M6.blk c hc).2.1) vc vb srt (by omega) (by omega) fun s' h16 v16 b16 x16 => ⟨s', _, _, rfl, ?_⟩
   refine New.copy2 fun b2 h19 eb2 hb2 x19 s19 => ?_
   have x619 := x16.trans x19
   have sz16 := x16.size
   have sz19 := x19.size
   have C19 := C6.on x619
   have M19 := M6.ext x619
   have hb19 := Ab x619 hb6
   have hs' : ∀ c, s'.blk = some c → k c = 0 ∧ c < h16.size ∧ c ≠ bm ∧ c ≠ s := fun c hc => by
    rcases b16 c hc with h | h
    ·obtain ⟨e1, e2, e3, e4⟩ := M6.blk c h
     exact ⟨e1, by omega, e3, e4⟩
    ·have := M6.lt
     exact ⟨C6.db.free h.1, h.2, by omega, by omega⟩
   have v19 := v16.ext x19
   have kb2 : k b2 = 0 := by rw [eb2]; exact (C6.on x16).db.free (Nat.le_refl _)
   have hbl2 := Ak hb2
   refine AU.mk (s := cc.cs) (AB hb19 rfl) (AU.mk (s := cc.bs) (AB hb19 rfl) ?_)
   have lay : ∀ h20 q20 k20 st20 m20 D20 age20 c20, Dz Um h h20 s q20 k20 st20 m20 D20 age20 c20 (doN (Bg st) cl l n) → Bg st20 = doM (Bg st) cl l → Mod (fun c => k c ≠ 0 ∨ h19.size ≤ c ∨ c = s) h19 h20 → (∀ c, k20 c ≠ 0 → k c ≠ 0 ∨ h19.size ≤ c) → q20.b = q.b → age20 ≤ 1 + 3 * (i + 1) → c20 ≤ 64 * (i + 1) → (AU h20 (⟨b2, 0, none⟩ : Addr) fun t59_0 => Aa .i64 h20 ((⟨b2, 0, none⟩ : Addr).add 1) fun t59_1 => Store h20 (⟨bm, 0, none⟩ : Addr) (.slice t59_0.p t59_0.len t59_0.cap) fun h21 => Store h21 ((⟨bm, 0, none⟩ : Addr).add 1) (.int .i64 t59_1) fun h22 => K1 (some ⟨q.b, 0, none⟩, some ⟨s, 0, none⟩, ()) h22) := by
    intro h20 q20 k20 st20 m20 D20 age20 c20 C20 mp20 md20 kk20 eb20 ha hcc
    have sz20 := md20.size
    have cb2 := md20.blk hb2 (by rintro (h | h | h); exact h kb2; omega; omega)
    refine AU.mk (s := s') (AJ cb2 rfl) (Aa.mk (AB cb2 rfl) ?_)
    have M20 := M19.step (k' := k20) md20 (fun c hc => by
     rcases hc with h | h | h
     ·exact .inl h
     ·exact .inr (.inl h)
     ·exact .inr (.inr h)) kk20 (.inl rfl)
    simp only [Bq, Nat.zero_add]
    refine Store.mk M20.cell (by simp) fun h21 hb21 m21 s21 => Store.mk hb21 (by simp) fun h22 hb22 m22 s22 => ?_
    have hb22 : h22[bm]? = some (.cells #[.slice s'.p s'.len s'.cap, .int .i64 (doN (Bg st) cl l n : Int)] BR (0, 0)) := by simpa using hb22
    have md22 := m21.trans m22
    have C22 := C20.beside md22 (fun c hc => by subst hc; exact ⟨M20.kz, hgb⟩) (fun e => M20.ne e.symm)
    have nk : ∀ c, k c = 0 → c < h19.size → k20 c = 0 := fun c h1 h2 => Decidable.byContradiction fun h3 => by
     rcases kk20 c h3 with h4 | h4
     ·exact h4 h1
     ·omega
    refine fin h22 s q20 k20 st20 m20 D20 _ _ _ s' C22 ⟨hb22, M20.kz, ?_, fun c hc => ?_, M20.ne⟩ ha hcc (by unfold doN; split <;> omega) _ _ eb20.symm rfl
    ·rw [mp20]
     refine (v19.mod md20 fun c hc hm => ?_).mod md22 fun c hc e => (hs' c hc).2.2.1 e
     obtain ⟨e1, e2, e3, e4⟩ := hs' c hc
     rcases hm with h | h | h
     ·exact h e1
     ·omega
     ·exact e4 h
    ·obtain ⟨e1, e2, e3, e4⟩ := hs' c hc
     exact ⟨nk c e1 (by omega), by omega, e3, e4⟩
   refine AA1 (B := Um) (conds := cc.cs) (sl := cc.bs) E C19 (by show 1 + 3 * i + 3 ≤ 700; omega) (by show 64 * i + 64 ≤ 12800; omega) (by omega) (ck.cs.ext C19.db.mem.ext) (ck.bs.ext C19.db.mem.ext) (C19.args ck.bs) hkeys (fun hne h20 x20 => ⟨_, rfl, PIf.no (by simp) ?_⟩) fun hz h20 q20 k20 st20 m20 D20 ed20 eb20 C20 mp20 md20 kk20 => ⟨_, rfl, PIf.no (by rw [hz]; rfl) ?_⟩
   ·exact lay h20 q k st m D _ _ (by rw [show doN (Bg st) cl l n = n from if_neg hne]; exact C19.on x20) (by rw [show doM (Bg st) cl l = Bg st from if_neg hne]) (x20.weak fun c _ hc => hc.elim) (fun c hc => .inl hc) rfl (by omega) (by omega)
   ·exact lay h20 q20 k20 st20 m20 D20 _ _ (by rw [show doN (Bg st) cl l n = n + 1 from if_pos hz]; exact C20) (by rw [mp20, show doM (Bg st) cl l = wrL (Bg st) l from if_pos hz]) md20 kk20 eb20 (by omega) (by omega)
  ·refine AC.mk (AB hb6 rfl) (AC.mk (AB hb6 rfl) (Aa.mk (AB hb6 rfl) ?_))
   refine Wz C6 (by omega) fun sl h7 o7 b7 x7 => ⟨sl, _, rfl, ?_⟩
   have M7 := M6.ext x7
   have hb7 := Ab x7 hb6
   refine Join.mk fun K2 hK2 => PIf.no rfl (AU.mk (s := sm) (AJ M7.cell rfl) (Aa.mk (AB M7.cell rfl) (AC.mk (AB hb7 rfl) (AC.mk (AB hb7 rfl) (Aa.mk (AB hb7 rfl) ?_)))))
   refine AH9 (s := sm) M7.view (by omega) fun s2 h8 o8 b8 x8 => ⟨s2, rfl, ?_⟩
   refine M.AFA (o7.view.ext x8) o8.view (by have := AIR (m := Bg st) (p := cc.key) (f := cc.frm) (most := cc.most); omega) ⟨_, rfl, hK2 _ _ (PIf.no (by simp) ?_)⟩
   exact fin h8 s q k st m D _ _ n sm ((C6.on x7).on x8) (M7.ext x8) (by omega) (by omega) (by omega) _ _ rfl rfl
  ·refine AC.mk (AB hb6 rfl) ?_
   refine AET C6 (by omega) fun h7 x7 => ⟨_, _, _, rfl, ?_⟩
   have M7 := M6.ext x7
   refine AU.mk (s := sm) (AJ M7.cell rfl) (AC.mk (AB (Ab x7 hb6) rfl) ?_)
   refine AEU (s := sm) M7.view srt (by omega) fun h8 x8 => ⟨_, _, rfl, ?_⟩
   refine Join.mk fun K2 hK2 => PIf.no rfl (PIf.no ?_ (hK2 _ _ (PIf.no (by simp) ?_)))
   ·rw [BO]; simp
   ·exact fin h8 s q k st m D _ _ n sm ((C6.on x7).on x8) (M7.ext x8) (by omega) (by omega) (by omega) _ _ rfl rfl
  ·refine AZ.mk (AB hb6 rfl) ?_
   refine ABE (B := Um) E C6 (by show 1 + 3 * i + 3 ≤ 700; omega) fun h7 q7 k7 st7 m7 D7 ed7 eb7 C7 mp7 md7 kk7 => ⟨_, rfl, PIf.no rfl ?_⟩
   have M7 := M6.step (k' := k7) md7 (fun c hc => hc.imp id .inl) kk7 (.inl rfl)
   rw [← mp7] at M7
   exact fin h7 s q7 k7 st7 m7 D7 _ _ n sm C7 M7 (by omega) (by omega) (by omega) _ _ eb7.symm rfl
  ·refine AFQ (keep := ⟨none, 0, 0⟩) (ks := []) C6.db.mem.box View.nil fun b8 h8 S8 _ B8 md8 f8 => ⟨_, rfl, ?_⟩
   obtain ⟨rc8, wt8⟩ := AFs (ks := []) C6.db
   have x8 : Ext h h8 := C6.db.mem.ext.then (md8.weak fun c _ hc => .inr (C6.db.mem.mine (by rw [C6.db.mem.kb c hc]; decide)))
   have sz6 := C6.db.mem.ext.size
   have sz8 := md8.size
   refine ADz (B := Um) E B8 x8 (fun c hc => by have := f8 c hc; omega) rfl rfl rc8 C6.db.hc (by show 1 + 3 * i + 1 ≤ 700; omega) wt8 fun h9 s9 q9 k9 st9 m9 D9 eb9 C9 mp9 md9 kk9 hs9 => ⟨_, _, rfl, PIf.no rfl ?_⟩
   have M8 := M6.step (k' := fun c => if h6.size ≤ c then 1 else 0) (s' := h6.size) md8 (fun c hc => .inl (by rw [C6.db.mem.kb c hc]; decide)) (fun c hc => .inr (Decidable.byContradiction fun h => hc (by rw [if_neg h]))) (.inr (Nat.le_refl _))
   have M9 := M8.step (k' := k9) (s' := s9) md9 (fun c hc => by
    have : h6.size ≤ c := by
     rcases hc with h | h
     ·have := f8 c h; omega
     ·omega
    exact .inl (by rw [if_pos this]; decide)) (fun c hc => by
    rcases kk9 c hc with h | h
    ·have : h6.size ≤ c := by have := f8 c h; omega
     exact .inl (by rw [if_pos this]; decide)
    ·exact .inr h) (.inr hs9)
   simp only [Bq, Nat.zero_add]
   refine Store.mk M9.cell (by simp) fun h10 hb10 m10 s10 => ?_
   have hb10 : h10[bm]? = some (.cells #[.slice sm.p sm.len sm.cap, .int .i64 ((0 : Nat) : Int)] BR (0, 0)) := by simpa using hb10
   have C10 := C9.beside m10 (fun c hc => by subst hc; exact ⟨M9.kz, hgb⟩) (fun e => M9.ne e.symm)
   refine fin h10 s9 q9 k9 st9 m9 D9 _ _ 0 sm C10 ⟨hb10, M9.kz, ?_, fun c hc => ?_, M9.ne⟩ (by omega) (by omega) (by omega) _ _ eb9.symm rfl
   ·rw [mp9]
    exact M9.view.mod m10 fun c hc e => (M9.blk c hc).2.2.1 e
   ·obtain ⟨e1, e2, e3, e4⟩ := M9.blk c hc
    exact ⟨e1, by omega, e3, e4⟩
  ·exact fin h6 s q k st m D _ _ n sm C6 M6 (by omega) (by omega) (by omega) _ _ rfl rfl
 ·refine Wz C (by decide) fun sl h7 o7 b7 x7 => ⟨sl, _, rfl, PIf.yes rfl ?_⟩
  rw [show (1048576 : Int) = ((1048576 : Nat) : Int) from rfl, AIS (by omega)] at o7
  have M7 := Mr.ext x7
  refine AU.mk (s := sm) (AJ M7.cell rfl) ?_
  refine M.AFA o7.view M7.view (by omega) ⟨_, rfl, ?_⟩
  rw [decide_eq_true rfl]
  exact H h7 (C.on x7).db.mem.ext
end Go.Lf.G

