/-
 The law LsmScans (chapter 9) over its formula.
-/
import Derived.Test.YteecdmkgblonnaaGreatDoorLfGLLsmScans
import Derived.Test.YteecdmkgblonnaaGreatDoorLfQ0ToO3
set_option linter.unusedVariables false
set_option linter.unusedSimpArgs false
set_option maxRecDepth 100000
set_option linter.unusedVariables false
set_option linter.unusedSimpArgs false
namespace Go.Lf.G
open Go
open M (Sorted findK putL putsL refAllL findLs GoodL wrongP OkL liveL atK thereK)
theorem lt_zero : ∀ (x k : List UInt8), decide (x < k ++ [0]) = !decide (k < x)
 | [], [] => by decide
 | [], b :: k => by simp
 | a :: x, [] => by
  have h : ¬ (a :: x < [0]) := fun h => by
   rcases List.cons_lt_cons_iff.1 h with h | ⟨_, h⟩
   ·exact absurd h (by simp)
   ·exact absurd h (by simp)
  simp only [List.nil_append]
  rw [decide_eq_false h]; simp
 | a :: x, b :: k => by
  have ih := lt_zero x k
  simp only [List.cons_append]
  by_cases h1 : a < b
  ·have e1 : a :: x < b :: (k ++ [0]) := List.cons_lt_cons_iff.2 (.inl h1)
   have e2 : ¬ (b :: k < a :: x) := fun h => by
    rcases List.cons_lt_cons_iff.1 h with h | ⟨h, _⟩
    ·exact absurd h1 (UInt8.lt_asymm h)
    ·subst h; exact UInt8.lt_irrefl _ h1
   rw [decide_eq_true e1, decide_eq_false e2]; rfl
  ·by_cases h2 : a = b
   ·subst h2
    have e1 : decide (a :: x < a :: (k ++ [0])) = decide (x < k ++ [0]) := decide_eq_decide.2 ⟨fun h => by
     rcases List.cons_lt_cons_iff.1 h with h | ⟨_, h⟩
     ·exact absurd h (UInt8.lt_irrefl _)
     ·exact h, fun h => List.cons_lt_cons_iff.2 (.inr ⟨rfl, h⟩)⟩
    have e2 : decide (a :: k < a :: x) = decide (k < x) := decide_eq_decide.2 ⟨fun h => by
     rcases List.cons_lt_cons_iff.1 h with h | ⟨_, h⟩
     ·exact absurd h (UInt8.lt_irrefl _)
     ·exact h, fun h => List.cons_lt_cons_iff.2 (.inr ⟨rfl, h⟩)⟩
    rw [e1, e2, ih]
   ·have h3 : b < a := by
     rcases UInt8.lt_or_lt_of_ne h2 with h | h
     ·exact absurd h h1
     ·exact h
    have e1 : ¬ (a :: x < b :: (k ++ [0])) := fun h => by
     rcases List.cons_lt_cons_iff.1 h with h | ⟨h, _⟩
     ·exact h1 h
     ·exact h2 h
    have e2 : b :: k < a :: x := List.cons_lt_cons_iff.2 (.inl h3)
    rw [decide_eq_false e1, decide_eq_true e2]; rfl
theorem sLt_zero (x k : ByteArray) : sLt x (k ++ ⟨#[0]⟩) = !sLt k x := by
 rw [sLt_lex, sLt_lex, ByteArray.data_append, Array.toList_append]
 exact lt_zero _ _
theorem cut_all (m : List Pr) : cutL ⟨#[]⟩ ⟨#[]⟩ m = m := List.filter_eq_self.2 fun x _ => key_all x.key
theorem cut_after {m : List Pr} (s : Sorted m) {i : Nat} {p : Pr} (hp : m[i]? = some p) : cutL (p.key ++ ⟨#[0]⟩) ⟨#[]⟩ m = m.drop (i + 1) := by
 obtain ⟨hi, rfl⟩ := List.getElem?_eq_some_iff.1 hp
 have hs := List.pairwise_iff_getElem.1 s
 have key : ∀ x : Pr, keyR (m[i].key ++ ⟨#[0]⟩) ⟨#[]⟩ x.key = sLt m[i].key x.key := fun x => by
  unfold keyR
  rw [sLt_zero]; simp
 have e : m = m.take (i + 1) ++ m.drop (i + 1) := (List.take_append_drop _ _).symm
 unfold cutL
 rw [List.filter_congr (q := fun x => sLt m[i].key x.key) fun x _ => key x]
 have hx1 : ∀ x ∈ m.take (i + 1), ¬ sLt m[i].key x.key = true := fun x hx => ?h1
 have hx2 : ∀ x ∈ m.drop (i + 1), sLt m[i].key x.key = true := fun x hx => ?h2
 ·generalize m[i].key = kk at *
  rw [← List.filter_eq_nil_iff] at hx1
  rw [← List.filter_eq_self] at hx2
  conv => lhs; rw [e]
  rw [List.filter_append, hx1, hx2, List.nil_append]
 case h2 =>
  obtain ⟨j, hj, rfl⟩ := List.getElem_of_mem hx
  rw [List.length_drop] at hj
  rw [List.getElem_drop]
  exact hs i (i + 1 + j) hi (by omega) (by omega)
 case h1 =>
  obtain ⟨j, hj, rfl⟩ := List.getElem_of_mem hx
  rw [List.length_take] at hj
  rw [List.getElem_take]
  by_cases hji : j = i
  ·subst hji; rw [sLt_irrefl]; simp
  ·have := hs j i (by omega) hi (by omega)
   rw [sLt_asymm this]; simp
def budS : Bud := ⟨6400, 0, 400, by decide, by decide, by decide⟩
theorem LsmScans_ok {A : Amb} {h : Heap} {calls : Sl} {cs : List CallC} {N : Nat} {most : Int} {R : Value → Heap → Prop} (E : Evn h) (v : View CallE h calls cs) (hc : ∀ x ∈ cs, ∃ l ks, CallOk N h x l ks) (H : ∀ h', Ext h h' → R (.bool true) h') : HCalls A P f_wherrylaw09_LsmScans #[.slice calls.p calls.len calls.cap, .int .i64 most] h R := by
 refine ok_wherrylaw09_LsmScans ?_
 unfold F_wherrylaw09_LsmScans
 refine awake_ok E fun h1 x1 => ⟨_, rfl, PIf.no rfl ?_⟩
 rw [v.len]
 refine Join.mk fun K0 hK0 => ?_
 refine PIf.intro (fun hq => hK0 _ _ (PIf.yes rfl (H h1 x1))) (fun hq => hK0 _ _ (PIf.intro (fun hq2 => H h1 x1) fun hq2 => ?_))
 clear hK0 K0
 have hcl : cs.length ≤ 100 := by have := of_decide_eq_false hq; omega
 have hmo : 1 ≤ most := by have := of_decide_eq_false hq2; omega
 refine bNew_ok fun b h2 Sb B2 x2 f2 => ⟨_, rfl, ?_⟩
 have x02 := x1.trans x2
 have sz1 := x1.size
 have sz2 := x2.size
 refine start_ok (B := budS) E B2 x02 (fun c hc => by have := f2 c hc; omega) rfl rfl (fun n => rfl) (fun n => rfl) (fun x hx => absurd rfl hx) (by decide) (by decide) fun h5 q5 k5 st5 m5 D5 eb5 S5 fu5 mp5 ot5 md5 kk5 => ⟨_, _, rfl, PIf.no rfl ?_⟩
 refine Loop.rule (fun mm x hh => ∃ (i : Nat) (q : Hp) (k : Nat → Nat) (st : Db) (m : Bx) (D : Disk), x = ((i : Int), ()) ∧ q.d = q5.d ∧ StoreAt budS h hh q k st m D (1 + 3 * i) (64 * i) ∧ m.fuel = -1 ∧ i ≤ cs.length ∧ mm = cs.length - i) ?_
  ⟨0, q5, k5, st5, m5, D5, rfl, rfl, S5, fu5, Nat.zero_le _, rfl⟩
 rintro K mm _ hh ⟨i, q, k, st, m, D, rfl, ed, S, fu, hi, rfl⟩ hK
 dsimp only
 rw [← ed]
 refine PIf.intro (fun hq => ?_) (fun hq => ?_)
 ·have hil : i < cs.length := by have := of_decide_eq_true hq; omega
  have hget : cs[i]? = some cs[i] := List.getElem?_eq_getElem hil
  obtain ⟨l, ks, ck⟩ := hc cs[i] (List.getElem_mem hil)
  generalize cs[i] = cc at *
  rw [← v.len]
  refine (v.ext S.mem.ext).idx hget fun a _ c0 => ?_
  obtain ⟨c0, c1, c2, c3, c4, c5⟩ := call_at c0
  refine LoadI.mk c0 (LoadL.mk (s := cc.bs) c1 (LoadS.mk c2 (LoadS.mk c3 (LoadI.mk c4 (LoadL.mk (s := cc.ks) c5 ?_)))))
  clear c0 c1 c2 c3 c4 c5
  refine New.copy6 fun bb h6 ebb hb6 x6 s6 => ?_
  refine LoadI.mk (hget_lit hb6 rfl) ?_
  have S6 := S.on x6
  have vb := ck.bs.ext S6.mem.ext
  have hsl := S6.args ck.bs
  refine Join.mk fun K2 hK2 => ?_
  have fin : ∀ h' q' k' st' m' D' age' c', StoreAt budS h h' q' k' st' m' D' age' c' → q'.d = q.d → age' ≤ 1 + 3 * (i + 1) → c' ≤ 64 * (i + 1) → m'.fuel = -1 → K2 () h' := fun h' q' k' st' m' D' age' c' S' ed' ha hcc fu' => by
   refine hK2 _ _ ?_
   rw [wrap_succ (by omega)]
   exact hK (cs.length - (i + 1)) _ _ (by omega) ⟨i + 1, q', k', st', m', D', rfl, ed'.trans ed, S'.put ha hcc (by show 64 * (i + 1) ≤ 6400; omega), fu', hil, rfl⟩
  clear hK2 hK
  refine PIf.intro (fun h0 => ?_) (fun h0 => PIf.intro (fun h3 => ?_) fun h3 => PIf.intro (fun h4 => ?_) fun h4 => ?_)
  ·refine LoadL.mk (s := cc.bs) (hget_lit1 hb6 rfl) ?_
   refine Write_calm (B := budS) (s := cc.bs) E S6 fu (by show 1 + 3 * i + 3 ≤ 400; omega) vb hsl (by show 64 * i + 64 ≤ 6400; omega) fun h7 q7 k7 st7 m7 D7 ed7 eb7 S7 fu7 _ ot7 md7 kk7 => ⟨_, rfl, ?_⟩
   exact fin h7 q7 k7 st7 m7 D7 _ _ S7 ed7 (by omega) (by omega) fu7
  ·refine Flush_ok (B := budS) E S6 (by show 1 + 3 * i + 2 ≤ 400; omega) (fun h' m' fe => absurd fu fe.fuel) fun h8 q8 k8 st8 m8 D8 ed8 eb8 S8 sty8 fr8 mp8 _ ot8 md8 kk8 => ⟨_, rfl, ?_⟩
   exact fin h8 q8 k8 st8 m8 D8 _ _ S8 ed8 (by omega) (by omega) (sty8.calm fu)
  ·refine Compact_ok (B := budS) E S6 (by show 1 + 3 * i + 1 ≤ 400; omega) (fun h' m' fe => absurd fu fe.fuel) fun h8 q8 k8 st8 m8 D8 ed8 eb8 S8 sty8 fr8 mp8 _ ot8 md8 kk8 => ⟨_, rfl, ?_⟩
   exact fin h8 q8 k8 st8 m8 D8 _ _ S8 ed8 (by omega) (by omega) (sty8.calm fu)
  ·exact fin h6 q k st m D _ _ S6 rfl (by omega) (by omega) fu
 ·clear hK
  obtain ⟨l1, l2, l3, l4⟩ := S.frlen
  have srt := S.sorted
  refine Scan_ok S.mem l1 l2 l3 fun sl h7 o7 b7 x7 => ⟨sl, _, rfl, ?_⟩
  rw [show (1048576 : Int) = ((1048576 : Nat) : Int) from rfl, scan_all (by omega)] at o7
  have S7 := S.on x7
  clear S
  generalize hM : mapS st = ml at *
  refine Loop.rule (fun mm x hh => ∃ (j : Nat) (sa : Sl) (f : ByteArray), x = (sa, f, ()) ∧ mm = ml.length - j ∧ j ≤ ml.length ∧ Ext h7 hh ∧ Own PairE t_api_Pair hh sa (ml.take j) ∧ (∀ c, sa.blk = some c → h7.size ≤ c) ∧ cutL f ⟨#[]⟩ ml = ml.drop j) ?_
   ⟨0, ⟨none, 0, 0⟩, ⟨#[]⟩, rfl, rfl, Nat.zero_le _, Mod.refl, Own.nil, fun c hc => by simp [Sl.blk] at hc, cut_all ml⟩
  rintro K mm _ h8 ⟨j, sa, f, rfl, rfl, hj, x8, oa, ba, hf⟩ hK
  dsimp only
  have S8 := S7.on x8
  refine Scan_ok S8.mem l1 l2 l3 fun pg h9 o9 b9 x9 => ⟨pg, _, rfl, PIf.no rfl ?_⟩
  rw [hM] at o9
  have epg : scanM ml f ⟨#[]⟩ most = (ml.drop j).take most.toNat := by unfold scanM; rw [hf]
  rw [epg] at o9
  have hpl := o9.view.len
  rw [List.length_take, List.length_drop] at hpl
  have hmn : 1 ≤ most.toNat := by omega
  refine PIf.intro (fun hz => ?_) (fun hz => ?_)
  ·have hz : pg.len = 0 := by have : ((pg.len : Nat) : Int) = 0 := (by simpa using hz); omega
   have hjl : j = ml.length := by omega
   subst hjl
   rw [List.take_length] at oa
   refine PIf.yes rfl (M.Same_ok ((oa.view).ext x9) (o7.view.ext (x8.trans x9)) (by omega) ⟨_, rfl, ?_⟩)
   rw [decide_eq_true rfl]
   exact H h9 ((S7.mem.ext.trans x8).trans x9)
  ·have hz : pg.len ≠ 0 := fun e => by rw [e] at hz; cases hz
   obtain ⟨n, hn⟩ : ∃ n, pg.len = n + 1 := ⟨pg.len - 1, by omega⟩
   refine append_own (E := PairE) (s := sa) (src := pg) (l := ml.take j) (m := (ml.drop j).take most.toNat) M.app_pair (oa.ext x9) o9.view (by simp only [List.length_take, List.length_drop]; omega) (by simp only [List.length_take, List.length_drop, maxLen]; omega) fun s' h10 o10 m10 b10 _ => ?_
   have hsa : ∀ c, sa.blk = some c → c < h8.size := fun c hc => own_lt oa hc
   have v10 : View PairE h10 pg ((ml.drop j).take most.toNat) := o9.view.mod m10 fun c hc e => by have := b9 c hc; have := hsa c e; omega
   have ewr : IntKind.wrap .i64 (((pg.len : Nat) : Int) - (1 : Int)) = ((n : Nat) : Int) := by
    rw [hn, wrap_i64 (by omega) (by omega)]; omega
   rw [ewr]
   have hget : ((ml.drop j).take most.toNat)[n]? = some (ml[j + n]'(by omega)) := by
    rw [List.getElem?_take, if_pos (by omega), List.getElem?_drop, List.getElem?_eq_getElem]
   refine v10.idx hget fun a _ c0 => ?_
   generalize hp : ml[j + n]'(by omega) = p at *
   have hMp : ml[j + n]? = some p := by rw [← hp]; exact List.getElem?_eq_getElem _
   obtain ⟨p0, p1, p2⟩ := c0.pair
   refine LoadS.mk p0 (New.mk fun h11 _ hb11 x11 s11 => ⟨x11.hget p0, ?_⟩)
   have vz : View ByteE h11 ⟨some ⟨h10.size, 0, none⟩, 1, 1⟩ [0] := (Own.lit (E := ByteE) (l := [0]) hb11 rfl (by decide)).view
   refine bytes_str (s := ⟨some ⟨h10.size, 0, none⟩, 1, 1⟩) P_slu8 P_u8 P_str vz ⟨_, rfl, ⟨x11.hget p0, ?_⟩⟩
   have hkm : p.key.size ≤ 1099511627776 := map_keys (st := st) p (by rw [hM]; exact List.mem_of_getElem? hMp)
   have ez : strL [0] = (⟨#[0]⟩ : ByteArray) := rfl
   rw [ez]
   have e1 : (⟨#[0]⟩ : ByteArray).size = 1 := rfl
   refine ⟨by rw [e1]; show (((p.key.size + 1 : Nat) : Int)) ≤ 9223372036854775807; omega, ?_⟩
   have x710 : Ext h7 h10 := (x8.trans x9).then (m10.weak fun c _ hc => .inr (ba c hc))
   have hlen : ((ml.drop j).take most.toNat).length = n + 1 := by rw [List.length_take, List.length_drop]; omega
   have etk : ml.take j ++ (ml.drop j).take most.toNat = ml.take (j + n + 1) := by
    have e2 : (ml.drop j).take most.toNat = (ml.drop j).take (n + 1) := by
     rw [← List.take_length (l := (ml.drop j).take most.toNat), hlen, List.take_take]
     congr 1; omega
    rw [e2, show j + n + 1 = j + (n + 1) from by omega]; exact List.take_add.symm
   rw [etk] at o10
   refine hK (ml.length - (j + n + 1)) _ _ (by omega) ⟨j + n + 1, s', p.key ++ ⟨#[0]⟩, rfl, rfl, by omega, x710.trans x11, o10.ext x11, fun c hc => ?_, cut_after srt hMp⟩
   rcases b10 c hc with h | h
   ·exact ba c h
   ·have := x8.size; have := x9.size; omega
end Go.Lf.G

