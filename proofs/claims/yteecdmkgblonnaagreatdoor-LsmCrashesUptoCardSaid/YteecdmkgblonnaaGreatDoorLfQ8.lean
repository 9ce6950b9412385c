/-
 The law LsmCrashes (chapter 9) over its formula.
-/
import Derived.Test.YteecdmkgblonnaaGreatDoorLfGLLsmCrashes
import Derived.Test.YteecdmkgblonnaaGreatDoorLfQ7
set_option linter.unusedVariables false
set_option linter.unusedSimpArgs false
set_option maxRecDepth 100000
set_option linter.unusedVariables false
set_option linter.unusedSimpArgs false
namespace Go.Lf.G
open Go
open M (Sorted findK putL putsL refAllL findLs GoodL wrongP OkL liveL atK thereK)
structure BrkC where
 fuel : Int
 kept : Sl
 more : Int
 again : Sl
def BrkE : Enc BrkC where
 enc x := [.int .i64 x.fuel, .slice x.kept.p x.kept.len x.kept.cap, .int .i64 x.more, .slice x.again.p x.again.len x.again.cap]
 w := 4
 len _ := rfl
 pos := by omega
 one x v hv := by simp at hv; rcases hv with rfl | rfl | rfl | rfl <;> rfl
theorem brk_at {h : Heap} {a : Addr} {x : BrkC} (c : Cells h a (BrkE.enc x)) : hget h a = some (.int .i64 x.fuel) ∧ hget h (a.add 1) = some (.slice x.kept.p x.kept.len x.kept.cap) ∧ hget h (a.add 2) = some (.int .i64 x.more) ∧ hget h (a.add 3) = some (.slice x.again.p x.again.len x.again.cap) := by
 have h0 := c 0 _ rfl
 rw [add_zero] at h0
 exact ⟨h0, c 1 _ rfl, c 2 _ rfl, c 3 _ rfl⟩
structure BrkOk (h : Heap) (x : BrkC) : Prop where
 kept : ∃ ks, View IntE h x.kept ks
 again : ∃ ks, View IntE h x.again ks
 fuel : x.fuel ≤ 9223372036854775807
 more : x.more ≤ 9223372036854775807
theorem wr1_mem {m : List Pr} {p x : Pr} (h : x ∈ wr1 m p) : x ∈ m ∨ x = p := by
 unfold wr1 at h
 rcases List.mem_append.1 h with h | h
 ·rcases List.mem_append.1 h with h | h
  ·exact .inl (List.mem_of_mem_take h)
  ·split at h
   ·cases h
   ·exact .inr (by simpa using h)
 ·exact .inl (List.mem_of_mem_drop h)
theorem wrL_mem {x : Pr} : ∀ {b m : List Pr}, x ∈ wrL m b → x ∈ m ∨ x ∈ b
 | [], _, h => .inl h
 | p :: b, m, h => by
  rcases wrL_mem (b := b) (m := wr1 m p) h with h | h
  ·rcases wr1_mem h with h | h
   ·exact .inl h
   ·exact .inr (by simp [h])
  ·exact .inr (List.mem_cons_of_mem _ h)
def Keyed (mp : List Pr) : Prop := ∀ x ∈ mp, x.key.size ≤ 1099511627776
theorem mapD_len (D : Disk) : (mapD D).length ≤ cntD D := by
 have h1 := M.refAllL_len (freshD D :: (lastN D).names.map D.T)
 rw [M.total_cons, total_eq, List.map_map] at h1
 have h2 := live_len (refAllL (freshD D :: (lastN D).names.map D.T))
 have h3 := fresh_len D
 have e : ((lastN D).names.map (List.length ∘ D.T)).sum = ((lastN D).names.map fun n => (D.T n).length).sum := rfl
 unfold mapD cntD
 omega
theorem Mode.len {B : Bud} {g h : Heap} {b d : Nat} {k : Nat → Nat} {m : Bx} {age c : Nat} {mp : List Pr} (a : Mode B g h b d k m age c mp) : mp.length ≤ 100000 := by
 have A := a.aft
 obtain ⟨S, b1, _⟩ := A.box
 obtain ⟨x, hx, D, _, h2, h3⟩ := A.tells _ (crash_to b1.good [])
 rw [List.mem_singleton.1 hx] at h3
 have h4 := mapD_len D
 rw [h3] at h4
 have := h2.prs
 have := A.hc
 have := B.hC
 omega
theorem app_map : appB P t_sl_wherryref09_Map t_wherryref09_Map SlE.w 24 = true := by kernel_rfl
def kN (n : Nat) : Nat → Nat := fun c => if n ≤ c then 1 else 0
theorem kN_ge {n c : Nat} (h : n ≤ c) : kN n c ≠ 0 := by unfold kN; rw [if_pos h]; decide
theorem kN_lt {n c : Nat} (h : kN n c ≠ 0) : n ≤ c := Decidable.byContradiction fun h2 => h (by unfold kN; rw [if_neg h2])
/-- one more map that may be told -/
theorem may_more {A : Amb} {h : Heap} {k : Nat → Nat} {bm : Nat} {may s : Sl} {mp mp' : List Pr} {K : Sl → Heap → Prop} (My : MayAt h k bm may [mp]) (v : View PairE h s mp') (hs : ∀ c, s.blk = some c → k c = 0 ∧ c < h.size ∧ c ≠ bm ∧ may.blk ≠ some c) (free : ∀ c, h.size ≤ c → k c = 0) (hbm : bm < h.size)
  (H : ∀ may' h', MayAt h' k bm may' [mp, mp'] → Mod (fun b => may.blk = some b) h h' → K may' h') :
  New h (.cells #[.slice s.p s.len s.cap] t_wherryref09_Map) fun b h1 => RunK A P (Builtin.append_ #[t_sl_wherryref09_Map, t_sl_wherryref09_Map] t_sl_wherryref09_Map #[.slice may.p may.len may.cap, .slice (some ⟨b, 0, none⟩) 1 1]) h1 fun v h' => ∃ s' : Sl, v = .slice s'.p s'.len s'.cap ∧ K s' h' := by
 obtain ⟨sls, o, hl, hv⟩ := My.ex
 match sls, hl with
 | [s0], _ =>
  refine New.append1 (E := SlE) (x := s) rfl app_map o (by simp) (by simp [maxLen]) fun may' h' o' md b' n' => H may' h' ?_ md
  obtain ⟨v0, b0⟩ := hv 0 s0 mp rfl rfl
  have sz := md.size
  refine ⟨⟨[s0, s], o', rfl, fun j t mp2 h1 h2 => ?_⟩, fun c hc => ?_⟩
  ·match j, h1, h2 with
   | 0, h1, h2 =>
    simp at h1 h2
    subst h1 h2
    refine ⟨v0.mod md fun c hc => (b0 c hc).2.2.2, fun c hc => ?_⟩
    obtain ⟨e1, e2, e3, e4⟩ := b0 c hc
    exact ⟨e1, by omega, e3, fun e => by
     rcases b' c e with h | h
     ·exact e4 h
     ·omega⟩
   | 1, h1, h2 =>
    simp at h1 h2
    subst h1 h2
    refine ⟨v.mod md fun c hc => (hs c hc).2.2.2, fun c hc => ?_⟩
    obtain ⟨e1, e2, e3, e4⟩ := hs c hc
    exact ⟨e1, by omega, e3, fun e => by
     rcases b' c e with h | h
     ·exact e4 h
     ·omega⟩
   | j + 2, h1, h2 => simp at h1
  ·have hlt := own_lt o' hc
   rcases b' c hc with h | h
   ·obtain ⟨e1, e2, e3⟩ := My.blk c h
    exact ⟨e1, hlt, e3⟩
   ·exact ⟨free c h, hlt, by omega⟩
def budC : Bud := ⟨10400, 0, 700, by decide, by decide, by decide⟩
theorem LsmCrashes_ok {A : Amb} {h : Heap} {calls crashes : Sl} {cs : List CallC} {bs : List BrkC} {N : Nat} {R : Value → Heap → Prop} (E : Evn h) (v : View CallE h calls cs) (hc : ∀ x ∈ cs, ∃ l ks, CallOk N h x l ks) (vb : View BrkE h crashes bs) (hb : ∀ x ∈ bs, BrkOk h x) (H : ∀ h', Ext h h' → R (.bool true) h') : HCalls A P f_wherrylaw09_LsmCrashes #[.slice calls.p calls.len calls.cap, .slice crashes.p crashes.len crashes.cap] h R := by
 refine ok_wherrylaw09_LsmCrashes ?_
 unfold F_wherrylaw09_LsmCrashes
 refine awake_ok E fun h1 x1 => ⟨_, rfl, PIf.no rfl ?_⟩
 have ecl := v.len
 have ebl := vb.len
 refine Join.mk fun K0 hK0 => ?_
 refine PIf.intro (fun hq => hK0 _ _ (PIf.yes rfl (H h1 x1))) (fun hq => hK0 _ _ (PIf.intro (fun hq2 => H h1 x1) fun hq2 => ?_))
 clear hK0 K0
 have hcl : cs.length ≤ 150 := by have := of_decide_eq_false hq; omega
 have hbl : bs.length ≤ 8 := by have := of_decide_eq_false hq2; omega
 refine bNew_ok fun b h2 Sb B2 x2 f2 => ⟨_, rfl, ?_⟩
 have x02 := x1.trans x2
 have sz1 := x1.size
 have sz2 := x2.size
 refine start_ok (B := budC) E B2 x02 (fun c hc => by have := f2 c hc; omega) rfl rfl (fun n => rfl) (fun n => rfl) (fun x hx => absurd rfl hx) (by decide) (by decide) fun h3 q3 k3 st3 m3 D3 eb3 S3 fu3 mp3 ot3 md3 kk3 => ⟨_, _, rfl, PIf.no rfl ?_⟩
 have hg3 : h.size ≤ h3.size := S3.mem.ext.size
 refine New.mk fun h4 _ hb4 x4 s4 => LoadL.mk (s := ⟨none, 0, 0⟩) (hget_lit hb4 rfl) (New.mk fun h5 _ hb5 x5 s5 => ?_)
 have S5 := (S3.on x4).on x5
 have M4 : MapAt h4 k3 h3.size ⟨none, 0, 0⟩ (mapS st3) := ⟨hb4, S3.free (Nat.le_refl _), by rw [mp3]; exact View.nil, fun c hc => by simp [Sl.blk] at hc⟩
 have My5 := MayAt.one M4 hb5 x5 (S3.free (by omega))
 generalize hbm : h3.size = bm at *
 refine Loop.rule (fun mm x hh => ∃ (i r : Nat) (q : Hp) (k : Nat → Nat) (st : Db) (m : Bx) (D : Disk) (sm may : Sl), x = (some ⟨q.b, 0, none⟩, some ⟨q.d, 0, none⟩, may, (i : Int), (r : Int), ()) ∧ StoreAt budC h hh q k st m D (1 + 3 * i + 8 * r) (64 * i + 64 * r) ∧ MapAt hh k bm sm (mapS st) ∧ MayAt hh k bm may [mapS st] ∧ ((∀ c, sm.blk = some c → may.blk ≠ some c) ∧ ∀ c, may.blk = some c → h.size ≤ c) ∧ i ≤ cs.length ∧ r ≤ bs.length + 1 ∧ mm = bs.length + 1 - r) ?_
  ⟨0, 0, q3, k3, st3, m3, D3, ⟨none, 0, 0⟩, _, by rw [eb3]; rfl, S5, M4.ext x5, My5, ⟨fun c hc => by simp [Sl.blk] at hc, fun c hc => (by have h1 : h4.size = c := (by simpa [Sl.blk] using hc); omega)⟩, Nat.zero_le _, Nat.zero_le _, rfl⟩
 rintro K1 mm _ h7 ⟨i, r, q, k, st, m, D, sm, may, rfl, S, Mp, My, ap, hi, hr, rfl⟩ hK1
 dsimp only
 refine PIf.intro (fun hq => ?_) (fun hq => H h7 S.mem.ext)
 have hrb : r ≤ bs.length := by have := of_decide_eq_true hq; omega
 refine Join.mk fun K2 hK2 => ?_
 have body : ∀ h8 k8 m8, StoreAt budC h h8 q k8 st m8 D (1 + 3 * i + 8 * r) (64 * i + 64 * r) → MapAt h8 k8 bm sm (mapS st) → MayAt h8 k8 bm may [mapS st] → K2 () h8 := by
  intro h8 k8 m8 S8 Mp8 My8
  refine hK2 _ _ (Join.mk fun K3 hK3 => ?_)
  have out : ∀ h9 may9 i9 k9 m9 ml, Aft budC h h9 q.b k9 m9 (1 + 3 * i9 + 8 * r + 3) (64 * i9 + 64 * r + 64) ml → MayAt h9 k9 bm may9 ml → (∃ sm : Sl, h9[bm]? = some (.cells #[.slice sm.p sm.len sm.cap] t_wherryref09_Map (0, 0))) → k9 bm = 0 → i9 ≤ cs.length → ml.length ≤ 2 → (∀ mp ∈ ml, Keyed mp) → K3 (may9, (i9 : Int), ()) h9 := by
   intro h9 may9 i9 k9 m9 ml a9 My9 ⟨smd, cell9⟩ kb9 hi9 hml2 hky
   obtain ⟨S9, B9, s9⟩ := a9.box
   have hbmN : bm < h9.size := blk_lt cell9
   have sz9 := a9.ext.size
   refine hK3 _ _ (Join.mk fun K4 hK4 => ?_)
   have k4 : ∀ (keep : Sl) (ks : List Int), View IntE h keep ks → K4 (keep, ()) h9 := by
    intro keep ks vk
    refine hK4 _ _ ?_
    dsimp only
    refine bCrash_ok (keep := keep) (ks := ks) B9 (vk.ext a9.ext) fun b11 h11 S11 _ B11 md11 f11 => ⟨_, rfl, ?_⟩
    obtain ⟨mp, hmp, rc⟩ := a9.tells _ (crash_to B9.good ks)
    have wt11 := Nat.le_trans (wt_crash (m := m9) (keep := ks)) a9.wt
    have My11 : MayAt h11 (kN h9.size) bm may9 ml := My9.step md11 (fun c hc => .inl (.inl (s9 c hc))) fun c hc => .inr (kN_lt hc)
    have x11 : Ext h h11 := a9.ext.then (md11.weak fun c _ hc => .inr (a9.own c (s9 c hc)).1)
    have c11 := md11.blk cell9 fun e => s9 bm e kb9
    have sz11 := md11.size
    refine Join.mk fun K5 hK5 => ?_
    have k5 : ∀ h12 b12 S12 m12 age12, IsBox h12 b12 S12 m12 → (∀ c, S12 c → h9.size ≤ c) → Ext h h12 → m12.down = false → m12.fuel = -1 → Rec (ff m12) age12 (64 * i9 + 64 * r + 64) mp → age12 ≤ 1 + 3 * i9 + 8 * r + 4 → wtF m12.files ≤ budC.W0 + age12 * budC.K → MayAt h12 (kN h9.size) bm may9 ml → h12[bm]? = some (.cells #[.slice smd.p smd.len smd.cap] t_wherryref09_Map (0, 0)) → h9.size ≤ h12.size → K5 (some ⟨b12, 0, none⟩, ()) h12 := by
     intro h12 b12 S12 m12 age12 B12 f12 x12 hd12 hf12 rc12 ha12 wt12 My12 c12 sz12
     refine hK5 _ _ ?_
     dsimp only
     refine reopen_ok (B := budC) E B12 x12 (fun c hc => by have := f12 c hc; omega) hd12 rc12 (by show 64 * i9 + 64 * r + 64 ≤ 10400; omega) (by show age12 + 1 ≤ 700; omega) wt12 (fun hf => absurd hf12 hf) fun h13 q13 k13 st13 m13 D13 eb13 S13 sty13 mp13 ot13 md13 kk13 => ⟨_, _, rfl, PIf.no rfl ?_⟩
     have My13 : MayAt h13 k13 bm may9 ml := My12.step md13 (fun c hc => .inl (.inl (kN_ge (f12 c hc)))) fun c hc => (kk13 c hc).imp (fun h => kN_ge (f12 c h)) id
     have c13 := md13.blk c12 fun e => by have := f12 bm e; omega
     have kb13 : k13 bm = 0 := Decidable.byContradiction fun hk => by
      rcases kk13 bm hk with h | h
      ·have := f12 bm h; omega
      ·omega
     have hgb : h.size ≤ bm := by omega
     have hml : may9.len = ml.length := by
      obtain ⟨sls, o, hl, _⟩ := My13.ex
      rw [o.len, hl]
     refine Loop.rule (fun mm x hh => ∃ (j : Nat) (f : Bool) (smf : Sl), x = (f, (j : Int), ()) ∧ j ≤ ml.length ∧ StoreAt budC h hh q13 k13 st13 m13 D13 (age12 + 1) (64 * i9 + 64 * r + 64) ∧ hh[bm]? = some (.cells #[.slice smf.p smf.len smf.cap] t_wherryref09_Map (0, 0)) ∧ MayAt hh k13 bm may9 ml ∧ (f = true → MapAt hh k13 bm smf mp) ∧ (∀ j', j' < j → ml[j']? = some mp → f = true) ∧ mm = ml.length - j) ?_
      ⟨0, false, smd, rfl, Nat.zero_le _, S13, c13, My13, (fun h => by cases h), (fun j' h => by omega), rfl⟩
     rintro K6 mm _ h14 ⟨j, f, smf, rfl, hj, S14, c14, My14, hf, hno, rfl⟩ hK6
     dsimp only
     refine PIf.intro (fun hq => ?_) (fun hq => ?_)
     ·have hjl : j < ml.length := by have := of_decide_eq_true hq; omega
      refine Join.mk fun K7 hK7 => ?_
      obtain ⟨sls, o, hl, hv⟩ := My14.ex
      have g1 : sls[j]? = some sls[j] := List.getElem?_eq_getElem (by omega)
      have g2 : ml[j]? = some ml[j] := List.getElem?_eq_getElem hjl
      obtain ⟨vj, bj⟩ := hv j _ _ g1 g2
      have kyj := hky ml[j] (List.getElem_mem hjl)
      generalize sls[j] = s at *
      generalize ml[j] = mj at *
      refine o.view.idx g1 fun a _ c => LoadL.mk (s := s) c.sl (New.mk fun h16 _ hb16 x16 s16 => ?_)
      refine Store.mk hb16 (by simp) fun h17 hb17 md17 s17 => ?_
      have hb17 : h17[h14.size]? = some (.cells #[.slice s.p s.len s.cap] t_wherryref09_Map (0, 0)) := by simpa using hb17
      have x17 : Ext h14 h17 := x16.then (md17.weak fun c _ hc => .inr (by omega))
      refine LoadL.mk (s := s) (hget_lit hb17 rfl) ?_
      refine ltold_ok (S14.on x17) (vj.ext x17) kyj fun h18 x18 => ⟨_, rfl, ?_⟩
      have x1418 := x17.trans x18
      have S18 := S14.on x1418
      have My18 := My14.ext x1418
      have c18 := ext_cells x1418 c14
      have sz18 := x1418.size
      refine PIf.intro (fun ht => ?_) (fun ht => ?_)
      ·have ht : mapS st13 = mj := of_decide_eq_true ht
       refine LoadL.mk (s := s) (hget_lit (ext_cells x18 hb17) rfl) (Store.mk c18 (by simp) fun h19 hb19 md19 s19 => ?_)
       have hb19 : h19[bm]? = some (.cells #[.slice s.p s.len s.cap] t_wherryref09_Map (0, 0)) := by simpa using hb19
       refine hK7 _ _ ?_
       dsimp only
       rw [wrap_succ (by omega)]
       refine hK6 (ml.length - (j + 1)) _ _ (by omega) ⟨j + 1, true, s, rfl, hjl, S18.beside md19 (fun c hc => by subst hc; exact ⟨kb13, hgb⟩), hb19, My18.step md19 (fun c hc => .inr hc) (fun c hc => .inl hc), fun _ => ?_, fun _ _ _ => rfl, rfl⟩
       rw [← mp13, ht]
       exact ⟨hb19, kb13, (vj.ext x1418).mod md19 fun c hc e => (bj c hc).2.2.1 e, fun c hc => by
        obtain ⟨e1, e2, e3, e4⟩ := bj c hc
        exact ⟨e1, by omega, e3⟩⟩
      ·have ht : mapS st13 ≠ mj := of_decide_eq_false ht
       refine hK7 _ _ ?_
       dsimp only
       rw [wrap_succ (by omega)]
       refine hK6 (ml.length - (j + 1)) _ _ (by omega) ⟨j + 1, f, smf, rfl, hjl, S18, c18, My18, fun h => (hf h).ext x1418, fun j' h1 h2 => ?_, rfl⟩
       by_cases e : j' = j
       ·subst e
        rw [g2] at h2
        obtain rfl := Option.some.inj h2
        exact absurd mp13 ht
       ·exact hno j' (by omega) h2
     ·have hjl : j = ml.length := by have := of_decide_eq_false hq; omega
      have hft : f = true := by
       obtain ⟨j', hj', e⟩ := List.getElem_of_mem hmp
       exact hno j' (by omega) (by rw [← e]; exact List.getElem?_eq_getElem _)
      subst hft
      have M14 := hf rfl
      refine PIf.no rfl (LoadL.mk (s := smf) (hget_lit c14 rfl) (New.mk fun h20 _ hb20 x20 s20 => ?_))
      rw [wrap_succ (by omega)]
      rw [← mp13] at M14
      have sz14 := S14.mem.ext.size
      refine hK1 (bs.length + 1 - (r + 1)) _ _ (by omega) ⟨i9, r + 1, q13, k13, st13, m13, D13, smf, ⟨some ⟨h14.size, 0, none⟩, 1, 1⟩, by rw [eb13], (S14.on x20).put (by omega) (by omega) (by show 64 * i9 + 64 * (r + 1) ≤ 10400; omega), M14.ext x20, MayAt.one M14 hb20 x20 (S14.free (Nat.le_refl _)), ⟨fun c hc e => ?_, fun c hc => ?_⟩, hi9, by omega, rfl⟩
      ·have h1 : h14.size = c := by simpa [Sl.blk] using e
       have := (M14.blk c hc).2.1
       omega
      ·have h1 : h14.size = c := by simpa [Sl.blk] using hc
       omega
    refine PIf.intro (fun hrl => ?_) (fun hrl => ?_)
    ·have hrl : r < bs.length := by have := of_decide_eq_true hrl; omega
     have hget : bs[r]? = some bs[r] := List.getElem?_eq_getElem hrl
     have bo := hb bs[r] (List.getElem_mem hrl)
     generalize bs[r] = bc at *
     refine (vb.ext x11).idx hget fun a _ c0 => ?_
     refine LoadI.mk (brk_at c0).2.2.1 ?_
     have hmore := bo.more
     refine bFuel_ok B11 (by split <;> omega) fun h21 B21 md21 => ⟨rfl, ?_⟩
     have x21 : Ext h h21 := x11.then (md21.weak fun c _ hc => .inr (by have := f11 c hc; omega))
     have My21 := My11.step (k' := kN h9.size) md21 (fun c hc => .inl (.inl (kN_ge (f11 c hc)))) fun c hc => .inl hc
     have c21 := md21.blk c11 fun e => by have := f11 bm e; omega
     have sz21 := md21.size
     have k8 : ∀ h23 S23 m23, IsBox h23 b11 S23 m23 → (∀ c, S23 c → h9.size ≤ c) → Ext h h23 → RecS (ff m23) (1 + 3 * i9 + 8 * r + 3 + 1) (64 * i9 + 64 * r + 64) mp → wtF m23.files ≤ budC.W0 + (1 + 3 * i9 + 8 * r + 3 + 1) * budC.K → MayAt h23 (kN h9.size) bm may9 ml → h23[bm]? = some (.cells #[.slice smd.p smd.len smd.cap] t_wherryref09_Map (0, 0)) → h9.size ≤ h23.size → (Idx crashes.p crashes.len (r : Int) fun a2 => LoadL h23 ((a2.add ((r : Int).toNat * 4)).add 3) fun t154 => HCalls A P f_box_Box_Crash #[ptrV b11, .slice t154.p t154.len t154.cap] h23 fun v8 h24 => ∃ t155 : Option Addr, v8 = .pointer t155 ∧ (K5 (t155, ()) h24)) := by
      intro h23 S23 m23 B23 f23 x23 rc23 wt23 My23 c23 sz23
      refine (vb.ext x23).idx hget fun a _ c0 => ?_
      refine LoadL.mk (s := bc.again) (brk_at c0).2.2.2 ?_
      obtain ⟨ag, va⟩ := bo.again
      refine bCrash_ok (keep := bc.again) (ks := ag) B23 (va.ext x23) fun b24 h24 S24 _ B24 md24 f24 => ⟨_, rfl, ?_⟩
      have sz24 := md24.size
      exact k5 h24 b24 S24 _ _ B24 (fun c hc => by have := f24 c hc; omega) (x23.then (md24.weak fun c _ hc => .inr (by have := f23 c hc; omega))) rfl rfl (rc23 _ (crash_to B23.good ag)) (by omega) (Nat.le_trans wt_crash wt23) (My23.step (k' := kN h9.size) md24 (fun c hc => .inl (.inl (kN_ge (f23 c hc)))) fun c hc => .inl hc) (md24.blk c23 fun e => by have := f23 bm e; omega) (by omega)
     refine reopen_ok (B := budC) (c := 64 * i9 + 64 * r + 64) (age := 1 + 3 * i9 + 8 * r + 3) (mp := mp) E B21 x21 (fun c hc => by have := f11 c hc; omega) rfl rc (by show 64 * i9 + 64 * r + 64 ≤ 10400; omega) (by show 1 + 3 * i9 + 8 * r + 3 + 1 ≤ 700; omega) wt11 (fun hf h22 d22 S22 m22 B22 dn22 md22 s22 rc22 ot22 wt22 => ⟨_, _, rfl, ?_⟩) fun h22 q22 k22 st22 m22 D22 eb22 S22 sty22 mp22 ot22 md22 kk22 => ⟨_, _, rfl, ?_⟩
     ·have sz22 := md22.size
      refine Join.mk fun K8 hK8 => PIf.yes rfl (hK8 _ _ (PIf.no rfl ?_))
      exact k8 h22 S22 m22 B22 (fun c hc => by
       rcases s22 c hc with h | h
       ·have := f11 c h; omega
       ·omega) (x21.then (md22.weak fun c _ hc => .inr (by have := f11 c hc; omega))) rc22 wt22 (My21.step (k' := kN h9.size) md22 (fun c hc => .inl (.inl (kN_ge (f11 c hc)))) fun c hc => .inl hc) (md22.blk c21 fun e => by have := f11 bm e; omega) (by omega)
     ·have sz22 := md22.size
      refine Join.mk fun K8 hK8 => PIf.no rfl (hK8 _ _ (PIf.no rfl ?_))
      have B22 := S22.mem.box
      rw [eb22] at B22
      exact k8 h22 q22.Sb m22 B22 (fun c hc => by
       rcases kk22 c (by rw [S22.mem.kb c hc]; decide) with h | h
       ·have := f11 c h; omega
       ·omega) S22.mem.ext (by rw [← mp22]; exact S22.disk.recS S22.lim) S22.wt (My21.step (k' := kN h9.size) md22 (fun c hc => .inl (.inl (kN_ge (f11 c hc)))) fun c hc => .inl hc) (md22.blk c21 fun e => by have := f11 bm e; omega) (by omega)
    ·exact k5 h11 b11 S11 (crashB m9 ks) _ B11 f11 x11 rfl rfl rc (by omega) wt11 My11 c11 (by omega)
   refine PIf.intro (fun hrl => ?_) (fun hrl => ?_)
   ·have hrl : r < bs.length := by have := of_decide_eq_true hrl; omega
    have hget : bs[r]? = some bs[r] := List.getElem?_eq_getElem hrl
    obtain ⟨ks, vk⟩ := (hb bs[r] (List.getElem_mem hrl)).kept
    generalize bs[r] = bc at *
    refine (vb.ext a9.ext).idx hget fun a _ c0 => ?_
    refine LoadL.mk (s := bc.kept) (brk_at c0).2.1 ?_
    exact k4 bc.kept ks vk
   ·exact k4 ⟨none, 0, 0⟩ [] View.nil
  clear hK3 hK2 hK1
  refine Loop.rule (fun mm x hh => ∃ (j : Nat) (k : Nat → Nat) (m : Bx) (mp : List Pr) (sm may : Sl), x = (may, (j : Int), ()) ∧ Mode budC h hh q.b q.d k m (1 + 3 * j + 8 * r) (64 * j + 64 * r) mp ∧ MapAt hh k bm sm mp ∧ MayAt hh k bm may [mp] ∧ ((∀ c, sm.blk = some c → may.blk ≠ some c) ∧ ∀ c, may.blk = some c → h.size ≤ c) ∧ j ≤ cs.length ∧ Keyed mp ∧ mm = cs.length - j) ?_
   ⟨i, k8, m8, mapS st, sm, may, rfl, .inl ⟨q, st, D, rfl, rfl, S8, rfl⟩, Mp8, My8, ap, hi, map_keys, rfl⟩
  clear My8 Mp8 S8
  rintro K9 mm _ h25 ⟨j, k, m, mp, sm, may, rfl, Mo, Mp, My, ap, hj, ky, rfl⟩ hK9
  dsimp only
  refine Join.mk fun K10 hK10 => PIf.intro (fun hq => hK10 _ _ (PIf.yes rfl ?_)) (fun hq => hK10 _ _ (PIf.no rfl ?_))
  ·clear hK10 K10
   have hjl : j < cs.length := by have := of_decide_eq_true hq; omega
   have hget : cs[j]? = some cs[j] := List.getElem?_eq_getElem hjl
   obtain ⟨l, ks, ck⟩ := hc cs[j] (List.getElem_mem hjl)
   generalize cs[j] = cc at *
   refine Join.mk fun K11 hK11 => ?_
   have cont : ∀ h' k2 m2 mp2 sm2 may2 age2 c2, Mode budC h h' q.b q.d k2 m2 age2 c2 mp2 → age2 ≤ 1 + 3 * (j + 1) + 8 * r → c2 ≤ 64 * (j + 1) + 64 * r → MapAt h' k2 bm sm2 mp2 → MayAt h' k2 bm may2 [mp2] → ((∀ c, sm2.blk = some c → may2.blk ≠ some c) ∧ ∀ c, may2.blk = some c → h.size ≤ c) → Keyed mp2 → K11 (may2, ()) h' := fun h' k2 m2 mp2 sm2 may2 age2 c2 Mo2 ha hcc Mp2 My2 ap2 ky2 => by
    refine hK11 _ _ ?_
    rw [wrap_succ (by omega)]
    exact hK9 (cs.length - (j + 1)) _ _ (by omega) ⟨j + 1, k2, m2, mp2, sm2, may2, rfl, Mo2.put ha hcc (by show 64 * (j + 1) + 64 * r ≤ 10400; omega), Mp2, My2, ap2, hjl, ky2, rfl⟩
   clear hK11 hK9
   have xh := Mo.aft.ext
   refine (v.ext xh).idx hget fun a _ c0 => ?_
   obtain ⟨c0, c1, c2, c3, c4, c5⟩ := call_at c0
   refine LoadI.mk c0 (LoadL.mk (s := cc.bs) c1 (LoadS.mk c2 (LoadS.mk c3 (LoadI.mk c4 (LoadL.mk (s := cc.ks) c5 ?_)))))
   clear c0 c1 c2 c3 c4 c5
   refine New.copy6 fun bb h26 ebb hb26 x26 s26 => ?_
   refine LoadI.mk (hget_lit hb26 rfl) ?_
   have Mo26 := Mo.on x26
   have Mp26 := Mp.ext x26
   have My26 := My.ext x26
   have vb26 := ck.bs.ext (Mo26.aft.ext)
   have kbb : k bb = 0 := by rw [ebb]; exact Mo.aft.free (Nat.le_refl _)
   clear Mo Mp My x26 xh
   refine Join.mk fun K12 hK12 => ?_
   have ok12 : ∀ may2 h', K11 (may2, ()) h' → K12 (may2, 0, ()) h' := fun may2 h' hyp => hK12 _ _ (Join.mk fun K13 hK13 => PIf.no rfl (hK13 _ _ (PIf.no rfl (PIf.no rfl hyp))))
   have bad12 : ∀ may2 h', K3 (may2, (j : Int), ()) h' → K12 (may2, 30, ()) h' := fun may2 h' hyp => hK12 _ _ (Join.mk fun K13 hK13 => PIf.yes rfl (hK13 _ _ (PIf.no rfl (PIf.yes rfl hyp))))
   clear hK12
   refine PIf.intro (fun h0 => ?_) (fun h0 => PIf.intro (fun h3 => ?_) (fun h3 => PIf.intro (fun h4 => ?_) fun h4 => ?_))
   ·refine LoadL.mk (s := cc.bs) (hget_lit1 hb26 rfl) ?_
    refine rCheck_ok (s := cc.bs) vb26 fun h27 x27 => ⟨_, rfl, ?_⟩
    have Mo27 := Mo26.on x27
    have Mp27 := Mp26.ext x27
    have My27 := My26.ext x27
    have vb27 := vb26.ext x27
    have hb27 := ext_cells x27 hb26
    refine PIf.intro (fun hz => ?_) (fun hz => ?_)
    ·exact cont h27 k m mp sm may _ _ Mo27 (by omega) (by omega) Mp27 My27 ap ky
    have hck : checkL l = 0 := by simpa using hz
    have hbat := (check_bat hck).1
    have hl64 := hbat.len
    have hkl := Mo27.len
    refine LoadL.mk (s := sm) (hget_lit Mp27.cell rfl) (LoadL.mk (s := cc.bs) (hget_lit1 hb27 rfl) ?_)
    refine rWrite_ok (s := sm) (sb := cc.bs) Mp27.view vb27 (by omega) fun s' h28 v28 b28 x28 => ⟨s', rfl, ?_⟩
    have Mo28 := Mo27.on x28
    have Mp28 := Mp27.ext x28
    have My28 := My27.ext x28
    have hs' : ∀ c, s'.blk = some c → k c = 0 ∧ c < h28.size ∧ c ≠ bm ∧ may.blk ≠ some c := fun c hc => by
     rcases b28 c hc with h | h
     ·obtain ⟨e1, e2, e3⟩ := Mp28.blk c h
      exact ⟨e1, e2, e3, ap.1 c h⟩
     ·have := Mp27.lt
      refine ⟨Mo27.aft.free h.1, h.2, by omega, fun e => ?_⟩
      have := (My27.blk c e).2.1
      omega
    refine New.mk fun h29 _ hb29 x29 s29 => ?_
    refine Store.mk hb29 (by simp) fun h30 hb30 md30 s30 => ?_
    have hb30 : h30[h28.size]? = some (.cells #[.slice s'.p s'.len s'.cap] t_wherryref09_Map (0, 0)) := by simpa using hb30
    have x2830 : Ext h28 h30 := x29.then (md30.weak fun c _ hc => .inr (by omega))
    have Mo30 := Mo28.on x2830
    have Mp30 := Mp28.ext x2830
    have My30 := My28.ext x2830
    have hb30c := ext_cells x2830 (ext_cells x28 hb27)
    have v30 := v28.ext x2830
    have k5z : k h28.size = 0 := Mo28.aft.free (Nat.le_refl _)
    have sz30 := x2830.size
    refine LoadL.mk (s := cc.bs) (hget_lit1 hb30c rfl) ?_
    have hkw : ∀ x ∈ wrL mp l, x.key.size ≤ 1099511627776 := fun x hx => by
     rcases wrL_mem hx with h | h
     ·exact ky x h
     ·have := (hbat.ok x h).keyMost; omega
    refine Mode.write (s := cc.bs) E Mo30 (by show 1 + 3 * j + 8 * r + 3 ≤ 700; omega) (by show 64 * j + 64 * r + 64 ≤ 10400; omega) (ck.bs.ext Mo30.aft.ext) (fun hne b hb => ?_) hck (fun h31 k31 m31 Mo31 md31 kk31 => ⟨_, rfl, PIf.yes rfl ?_⟩) (fun h31 k31 m31 A31 md31 kk31 => ⟨_, rfl, PIf.no rfl ?_⟩)
    ·have h1 := view_lt ck.bs hne hb
     have := Mo30.aft.ext.size
     exact ⟨by omega, Mo30.aft.base h1⟩
    ·have hb31 := md31.blk hb30 (by rw [k5z]; simp)
     refine LoadL.mk (s := s') (hget_lit hb31 rfl) ?_
     have Mp31 := Mp30.step md31 (fun c hc => .inl hc) kk31
     have nk : ∀ c, k c = 0 → c < h30.size → k31 c = 0 := fun c h1 h2 => Decidable.byContradiction fun h3 => by
      rcases kk31 c h3 with h4 | h4
      ·exact h4 h1
      ·omega
     have v31 := v30.mod md31 fun c hc hk => hk (hs' c hc).1
     have sz31 := md31.size
     refine Store.mk Mp31.cell (by simp) fun h32 hb32 md32 s32 => ?_
     have hb32 : h32[bm]? = some (.cells #[.slice s'.p s'.len s'.cap] t_wherryref09_Map (0, 0)) := by simpa using hb32
     have Mo32 := Mo31.beside md32 fun c hc => by subst hc; exact ⟨Mp31.kz, by omega⟩
     have M32 : MapAt h32 k31 bm s' (wrL mp l) := ⟨hb32, Mp31.kz, v31.mod md32 fun c hc e => (hs' c hc).2.2.1 e, fun c hc => by
      obtain ⟨e1, e2, e3, e4⟩ := hs' c hc
      exact ⟨nk c e1 (by omega), by omega, e3⟩⟩
     refine LoadL.mk (s := s') (hget_lit hb32 rfl) (New.mk fun h33 _ hb33 x33 s33 => ?_)
     have My33 := MayAt.one M32 hb33 x33 (Mo32.aft.free (Nat.le_refl _))
     refine ok12 _ _ (cont h33 k31 m31 (wrL mp l) s' _ _ _ (Mo32.on x33) (by omega) (by omega) (M32.ext x33) My33 ⟨fun c hc e => ?_, fun c hc => ?_⟩ hkw)
     ·have h1 : h32.size = c := by simpa [Sl.blk] using e
      have := (hs' c hc).2.1
      omega
     ·have h1 : h32.size = c := by simpa [Sl.blk] using hc
      have := Mo32.aft.ext.size
      omega
    ·have hb31 := md31.blk hb30 (by rw [k5z]; simp)
     refine LoadL.mk (s := s') (hget_lit hb31 rfl) ?_
     have Mp31 := Mp30.step md31 (fun c hc => .inl hc) kk31
     have My31 := My30.step md31 (fun c hc => .inl (.inl hc)) kk31
     have nk : ∀ c, k c = 0 → c < h30.size → k31 c = 0 := fun c h1 h2 => Decidable.byContradiction fun h3 => by
      rcases kk31 c h3 with h4 | h4
      ·exact h4 h1
      ·omega
     have v31 := v30.mod md31 fun c hc hk => hk (hs' c hc).1
     have sz31 := md31.size
     refine may_more My31 v31 (fun c hc => by
      obtain ⟨e1, e2, e3, e4⟩ := hs' c hc
      exact ⟨nk c e1 (by omega), by omega, e3, e4⟩) (fun c hc => A31.free hc) Mp31.lt fun may' h34 My34 md34 => ?_
     refine bad12 _ _ (out h34 may' j k31 m31 [mp, wrL mp l] ((A31.beside md34 fun c hc => ⟨(My31.blk c hc).1, ?_⟩).put (by omega) (by omega) (by show 64 * j + 64 * r + 64 ≤ 10400; omega) fun x hx => hx) My34 ⟨sm, md34.blk Mp31.cell fun e => (My31.blk bm e).2.2 rfl⟩ Mp31.kz hj (by simp) fun mp2 hm => ?_)
     ·exact ap.2 c (by assumption)
     ·rcases List.mem_cons.1 hm with rfl | hm
      ·exact ky
      ·obtain rfl := List.mem_singleton.1 hm
       exact hkw
   ·refine Mode.flush E Mo26 (by show 1 + 3 * j + 8 * r + 3 ≤ 700; omega) (fun h31 k31 m31 Mo31 md31 kk31 => ⟨_, rfl, ?_⟩) (fun h31 k31 m31 A31 md31 kk31 => ⟨_, rfl, ?_⟩)
    ·exact ok12 _ _ (cont h31 k31 m31 mp sm may _ _ Mo31 (by omega) (by omega) (Mp26.step md31 (fun c hc => .inl hc) kk31) (My26.step md31 (fun c hc => .inl (.inl hc)) kk31) ap ky)
    ·have Mp31 := Mp26.step md31 (fun c hc => .inl hc) kk31
     exact bad12 _ _ (out h31 may j k31 m31 [mp] (A31.put (by omega) (by omega) (by show 64 * j + 64 * r + 64 ≤ 10400; omega) fun x hx => hx) (My26.step md31 (fun c hc => .inl (.inl hc)) kk31) ⟨sm, Mp31.cell⟩ Mp31.kz hj (by simp) fun mp2 hm => by rw [List.mem_singleton.1 hm]; exact ky)
   ·refine Mode.compact E Mo26 (by show 1 + 3 * j + 8 * r + 3 ≤ 700; omega) (fun h31 k31 m31 Mo31 md31 kk31 => ⟨_, rfl, ?_⟩) (fun h31 k31 m31 A31 md31 kk31 => ⟨_, rfl, ?_⟩)
    ·exact ok12 _ _ (cont h31 k31 m31 mp sm may _ _ Mo31 (by omega) (by omega) (Mp26.step md31 (fun c hc => .inl hc) kk31) (My26.step md31 (fun c hc => .inl (.inl hc)) kk31) ap ky)
    ·have Mp31 := Mp26.step md31 (fun c hc => .inl hc) kk31
     exact bad12 _ _ (out h31 may j k31 m31 [mp] (A31.put (by omega) (by omega) (by show 64 * j + 64 * r + 64 ≤ 10400; omega) fun x hx => hx) (My26.step md31 (fun c hc => .inl (.inl hc)) kk31) ⟨sm, Mp31.cell⟩ Mp31.kz hj (by simp) fun mp2 hm => by rw [List.mem_singleton.1 hm]; exact ky)
   ·exact ok12 _ _ (cont h26 k m mp sm may _ _ Mo26 (by omega) (by omega) Mp26 My26 ap ky)
  ·exact out h25 may j k m [mp] (Mo.aft.put (by omega) (by omega) (by show 64 * j + 64 * r + 64 ≤ 10400; omega) fun x hx => hx) My ⟨sm, Mp.cell⟩ Mp.kz hj (by simp) fun mp2 hm => by rw [List.mem_singleton.1 hm]; exact ky
 refine PIf.intro (fun hrl => ?_) (fun hrl => ?_)
 ·have hrl : r < bs.length := by have := of_decide_eq_true hrl; omega
  have hget : bs[r]? = some bs[r] := List.getElem?_eq_getElem hrl
  have bo := hb bs[r] (List.getElem_mem hrl)
  generalize bs[r] = bc at *
  refine (vb.ext S.mem.ext).idx hget fun a _ c0 => ?_
  refine LoadI.mk (brk_at c0).1 ?_
  have hfuel := bo.fuel
  refine bFuel_ok S.mem.box (by split <;> omega) fun h8 B8 md8 => ⟨rfl, ?_⟩
  have hlt := Mp.lt
  have kk8 : ∀ c, extK k h7.size q.Sb 2 c ≠ 0 → k c ≠ 0 ∨ h7.size ≤ c := fun c hc => by
   by_cases h : c < h7.size
   ·rw [extK_old h] at hc; exact .inl hc
   ·exact .inr (by omega)
  have hS : ∀ c, q.Sb c → k c ≠ 0 ∨ h7.size ≤ c := fun c hc => .inl (by rw [S.mem.kb c hc]; decide)
  exact body h8 _ _ (S.fuel B8 md8) (Mp.step md8 hS kk8) (My.step md8 (fun c hc => .inl (hS c hc)) kk8)
 ·exact body h7 k m S Mp My
end Go.Lf.G

