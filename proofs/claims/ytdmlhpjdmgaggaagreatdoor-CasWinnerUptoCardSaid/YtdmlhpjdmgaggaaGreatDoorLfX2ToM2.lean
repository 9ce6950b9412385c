/-
 Contracts: frames scanned, a log's segments, a log opened (chapters 2 and 4).
-/
import Derived.Test.YtdmlhpjdmgaggaaGreatDoorLfS1aToU17
import Derived.Test.YtdmlhpjdmgaggaaGreatDoorLfY5ToS3
import Derived.Test.YtdmlhpjdmgaggaaGreatDoorLfG1
import Derived.Test.YtdmlhpjdmgaggaaGreatDoorLfU3ToB1
import Derived.Laws.StructEq
import Derived.ChangeKeysEq
set_option linter.unusedVariables false
set_option linter.unusedSimpArgs false
set_option maxRecDepth 100000
set_option linter.unusedVariables false
set_option linter.unusedSimpArgs false
namespace Go.Lf.G
open Go
theorem ADJ : Q5 P A8 Ad EC.w 16 = true := by kernel_rfl
theorem Wz : Q5 P Bl BO EZ.w 8 = true := by kernel_rfl
theorem LU (s : ByteArray) : Aa (bl s) = s := IL s
theorem AC3 {l : List UInt8} {rs : List (List UInt8)} (h : Jq l rs) : rs.length ≤ l.length := by
 induction h with
 | stop h => exact Nat.zero_le _
 | step h s ih => have := Ug h; simp only [List.length_cons]; omega
theorem AHw {A : Amb} {h : Heap} {s : ByteArray} {R : Value → Heap → Prop} (hs : s.size ≤ 8000000000000)
  (H : ∀ h' sl n, Ext h h' → View EC h' sl ((AAR (bl s)).map Aa) → R (.tuple #[.slice sl.p sl.len sl.cap, .int .i64 n]) h') : AA A P Gh #[.string s] h R := by
 refine Qh ?_
 unfold J2
 refine Loop.rule (fun m x hh => ∃ (sl : Sl) (dn rs : List (List UInt8)) (l : List UInt8), x = (sl, Aa l, ()) ∧ Ext h hh ∧ Own EC Ad hh sl (dn.map Aa) ∧ (∀ c, sl.blk = some c → h.size ≤ c) ∧ Jq l rs ∧ AAR (bl s) = dn ++ rs ∧ dn.length + l.length ≤ s.size ∧ m = l.length) ?_
  ⟨⟨none, 0, 0⟩, [], _, bl s, by rw [LU], Mod.refl, Own.nil, fun c hc => by simp [Sl.blk] at hc, Xk _, rfl, by rw [Bz]; simp, rfl⟩
 rintro K m _ hh ⟨sl, dn, rs, l, rfl, x, o, f, sc, e, hl, rfl⟩ hK
 refine ADv (by omega) fun h2 x2 => ⟨_, _, _, rfl, ?_⟩
 cases sc with
 | stop hn =>
  refine PIf.no (by simp; omega) ?_
  rw [List.append_nil] at e
  exact H h2 sl _ (x.trans x2) (by rw [e]; exact (o.ext x2).view)
 | step hn sc =>
  rename_i rs
  refine PIf.yes (by simp; omega) ?_
  have hr := Ug hn
  refine New.append1 (E := EC) (x := Aa (Er l).2.1) (s := sl) (l := dn.map Aa) rfl ADJ (o.ext x2) (by simp; omega) (by simp [maxLen]; omega) fun s' h6 o6 m6 b6 n6 => ?_
  refine hK (Er l).2.2.length _ _ (by omega) ⟨s', dn ++ [(Er l).2.1], rs, (Er l).2.2, rfl, (x.trans x2).more m6 f, ?_, fun c hc => ?_, sc, by rw [e]; simp, by simp; omega, rfl⟩
  ·rw [List.map_append]; exact o6
  ·rcases b6 c hc with h | h
   ·exact f c h
   ·have := x.size; have := x2.size; omega
theorem AJL {A : Amb} {h : Heap} {s : Sl} {l : List Int} {R : Value → Heap → Prop} (o : Own EZ BO h s l) (hl : l.length ≤ 8796093022208)
  (H : ∀ h', View EZ h' s (l.mergeSort fun x y => decide (x ≤ y)) → Mod (fun b => s.blk = some b) h h' → R (.tuple #[]) h') : AA A P GR #[.slice s.p s.len s.cap] h R := by
 intro n
 have hlen := o.len
 rcases o.row with ⟨rfl, rfl⟩ | ⟨g, cur, hp, hg, hc1, hc2, hc3, hc4⟩
 ·refine Calls.mono (Proofs.AnyM.slices_Sort_int_none Proofs.Tryz.sortI none 0 (A.at h n)) ?_
  rintro e w' ⟨rfl, rfl⟩
  exact ⟨_, rfl, h, n, rfl, H h (by simpa using View.nil) Mod.refl⟩
 ·rw [hp, hlen]
  have hw : EZ.w = 1 := rfl
  rw [hw, Nat.mul_one] at hc3 hc4
  have hcur : ∀ j x, l[j]? = some x → cur[j]? = some (Value.int .i64 x) := fun j x hj => by
   have h1 := flat_get (E := EZ) hj 0 (.int .i64 x) rfl
   rw [← hc4, hw, Nat.mul_one, Nat.add_zero, List.getElem?_take] at h1
   split at h1
   ·simpa using h1
   ·cases h1
  refine Calls.mono (Proofs.AnyM.slices_Sort_int Proofs.Tryz.sortI g 0 s.cap l (A.at h n) ?_ (Am hg) (by omega)) ?_
  ·intro j hj
   have hj : j < l.length := by simpa using hj
   have h1 := hcur j l[j] (List.getElem?_eq_getElem hj)
   have h2 : l.toArray[j]! = l[j] := by simp [hj]
   refine ⟨?_, ?_⟩
   ·show hget h ⟨g, 0 + j, none⟩ = _
    unfold hget
    rw [hg]
    simp only [Option.isSome_none, Bool.false_eq_true, if_false, Nat.zero_add, h2, h1]
   ·show hfro h ⟨g, 0 + j, none⟩ = false
    unfold hfro
    rw [hg]
    simp
  ·rintro e w' ⟨rfl, k, os, rfl⟩
   have hgb : (h.modify g (Sort.onCells (Sort.putCells (Value.int .i64) 0 (l.mergeSort fun x y => decide (x ≤ y)).toArray)) ++ os)[g]? = some (.cells (Sort.putCells (Value.int .i64) 0 (l.mergeSort fun x y => decide (x ≤ y)).toArray cur) BO (0, 0)) := by
    rw [Array.getElem?_append_left (by simpa using Am hg), Array.getElem?_modify, if_pos rfl, hg]
    rfl
   refine ⟨_, rfl, h.modify g (Sort.onCells (Sort.putCells (Value.int .i64) 0 (l.mergeSort fun x y => decide (x ≤ y)).toArray)) ++ os, n + k, rfl, H _ ⟨?_, hc1, fun j x hj => ⟨⟨g, 0, none⟩, hp, fun i v hi => ?_⟩⟩ ⟨by simp, fun b hb hn => ?_⟩⟩
   ·rw [List.length_mergeSort]; exact hlen
   ·have hi0 : i = 0 := by
     have := (List.getElem?_eq_some_iff.1 hi).1
     have e : (EZ.enc x).length = 1 := rfl
     omega
    subst hi0
    simp only [EZ, List.getElem?_cons_zero, Option.some.injEq] at hi
    subst hi
    have hjl : j < (l.mergeSort fun x y => decide (x ≤ y)).length := (List.getElem?_eq_some_iff.1 hj).1
    have hjc : j < cur.size := by rw [List.length_mergeSort] at hjl; omega
    rw [hw, Nat.mul_one, Bw, Bw, Nat.zero_add, Nat.add_zero]
    unfold hget
    rw [hgb]
    simp only [Option.isSome_none, Bool.false_eq_true, if_false, Sort.putCells, Array.getElem?_mapIdx]
    rw [Array.getElem?_eq_getElem hjc, Option.map_some, if_pos ⟨Nat.zero_le _, by simpa using hjl⟩]
    have : (l.mergeSort fun x y => decide (x ≤ y)).toArray[j - 0]! = x := by
     rw [Nat.sub_zero]
     simp [hj]
    rw [this]
   ·have hbg : g ≠ b := fun e => hn (by rw [Sl.blk, hp, e]; rfl)
    rw [Array.getElem?_append_left (by simpa using hb), Array.getElem?_modify, if_neg hbg]
structure AI2 (nm : ByteArray) (m : Bx) (l : List Nat) : Prop where
 inc : l.Pairwise (· < ·)
 mem : ∀ n, n ∈ l ↔ 1 ≤ n ∧ n ≤ 99999999 ∧ (BP (fnB nm n) m.files).isSome = true
theorem Wl {k : ByteArray} {l : List Fi} : (BP k l).isSome = true ↔ k ∈ l.map (·.name) := by
 constructor
 ·intro h
  cases hf : BP k l with
  | none => rw [hf] at h; cases h
  | some f =>
   obtain ⟨h1, h2⟩ := GY hf
   exact List.mem_map.2 ⟨f, h2, h1⟩
 ·intro h
  obtain ⟨f, h1, h2⟩ := List.mem_map.1 h
  cases hf : BP k l with
  | none => exact absurd h2 (Km hf f h1)
  | some f => rfl
theorem AC4 {m : Bx} (g : DK m) : (m.files.map (·.name)).Nodup := List.pairwise_map.2 (g.sorted.imp fun h => Js h)
theorem AD7 {ns : List Nat} (hnd : ns.Nodup) : ∃ l : List Nat, ((ns.map fun n : Nat => (n : Int)).mergeSort fun x y => decide (x ≤ y)) = l.map (fun n : Nat => (n : Int)) ∧ l.Pairwise (· < ·) ∧ ∀ n, n ∈ l ↔ n ∈ ns := by
 have hp := List.mergeSort_perm (ns.map fun n : Nat => (n : Int)) (fun x y => decide (x ≤ y))
 have hs : ((ns.map fun n : Nat => (n : Int)).mergeSort fun x y => decide (x ≤ y)).Pairwise (fun x y => decide (x ≤ y) = true) :=
  List.pairwise_mergeSort (fun a b c h1 h2 => by simp at h1 h2 ⊢; omega) (fun a b => by simp; omega) _
 generalize (ns.map fun n : Nat => (n : Int)).mergeSort (fun x y => decide (x ≤ y)) = L at hp hs
 have hall : ∀ x ∈ L, ((x.toNat : Nat) : Int) = x := fun x hx => by
  obtain ⟨n, _, rfl⟩ := List.mem_map.1 (hp.subset hx)
  simp
 have hL : L = (L.map Int.toNat).map (fun n : Nat => (n : Int)) := by
  rw [List.map_map]
  conv => lhs; rw [← List.map_id L]
  exact List.map_congr_left fun x hx => (hall x hx).symm
 have hnd2 : L.Nodup := hp.symm.nodup (by
  rw [List.nodup_iff_pairwise_ne, List.pairwise_map]
  exact (List.nodup_iff_pairwise_ne.1 hnd).imp fun h e => h (by exact_mod_cast e))
 refine ⟨L.map Int.toNat, hL, ?_, fun n => ?_⟩
 ·rw [List.pairwise_map]
  have h2 : L.Pairwise fun x y => decide (x ≤ y) = true ∧ x ≠ y := hs.and (List.nodup_iff_pairwise_ne.1 hnd2)
  refine h2.imp_of_mem fun {a c} ha hc hac => ?_
  have h3 := hall a ha
  have h4 := hall c hc
  have h5 : a ≤ c := of_decide_eq_true hac.1
  have h6 := hac.2
  omega
 ·constructor
  ·intro hn
   obtain ⟨x, hx, rfl⟩ := List.mem_map.1 hn
   obtain ⟨k, hk, rfl⟩ := List.mem_map.1 (hp.subset hx)
   simpa using hk
  ·intro hn
   exact List.mem_map.2 ⟨(n : Int), hp.symm.subset (List.mem_map.2 ⟨n, hn, rfl⟩), by simp⟩
theorem VE {A : Amb} {h : Heap} {b : Nat} {S : Nat → Prop} {m : Bx} {nm : ByteArray} {R : Value → Heap → Prop} (E : Evn h) (B : BV h b S m) (hd : m.down = false) (hnm : nm.size ≤ 1099511627776) (hw : wtF m.files ≤ 8000000000000)
  (H : ∀ h' s (l : List Nat), AI2 nm m l → View EZ h' s (l.map fun n : Nat => (n : Int)) → Ext h h' → (∀ c, s.blk = some c → h.size ≤ c) → R (.tuple #[.slice s.p s.len s.cap, .int .i64 0]) h') : AA A P GL #[BC b, .string nm] h R := by
 refine VX ?_
 unfold Kh
 refine ADX B fun s h1 o1 x1 f1 => ⟨s, _, rfl, ?_⟩
 have hL : X9 m = (m.files.map (·.name), 0) := by unfold X9; rw [if_neg (by simp [hd])]
 rw [hL] at o1 ⊢
 refine PIf.no rfl ?_
 have hnd := AC4 B.good
 have hsz : ∀ k ∈ m.files.map (·.name), k.size ≤ 32 := fun k hk => by
  obtain ⟨f, hf, rfl⟩ := List.mem_map.1 hk
  exact B.good.names f hf
 have hlen : (m.files.map (·.name)).length ≤ 8000000000000 := by
  have := Nh m.files
  simp; omega
 have hfind : ∀ k, (BP k m.files).isSome = true ↔ k ∈ m.files.map (·.name) := fun k => Wl
 dsimp only at o1
 generalize m.files.map (·.name) = names at *
 have v1 := o1.view
 refine Loop.rule (fun mm x hh => ∃ (i : Nat) (sl : Sl) (ns : List Nat), x = (sl, (i : Int), ()) ∧ Ext h1 hh ∧ Own EZ BO hh sl (ns.map fun n : Nat => (n : Int)) ∧ (∀ c, sl.blk = some c → h1.size ≤ c) ∧ i ≤ names.length ∧ ns.length ≤ i ∧ (ns.map (fnB nm)).Sublist (names.take i) ∧ (∀ n ∈ ns, 1 ≤ n ∧ n ≤ 99999999) ∧ (∀ k : Nat, 1 ≤ k → k ≤ 99999999 → fnB nm k ∈ names.take i → k ∈ ns) ∧ mm = names.length - i) ?_
  ⟨0, ⟨none, 0, 0⟩, [], rfl, Mod.refl, Own.nil, fun c hc => by simp [Sl.blk] at hc, Nat.zero_le _, Nat.le_refl _, by simp, by simp, by simp, rfl⟩
 rintro K mm _ hh ⟨i, sl, ns, rfl, xh, o, f, hi, hni, hsub, hrng, hall, rfl⟩ hK
 rw [v1.len]
 refine PIf.intro (fun hq => ?_) (fun hq => ?_)
 ·have hil : i < names.length := by simpa using hq
  refine Join.mk fun K1 hK1 => ?_
  have hget : names[i]? = some names[i] := List.getElem?_eq_getElem hil
  rw [← v1.len]
  refine (v1.ext xh).idx hget fun a _ c => ?_
  refine AC.mk c.str ?_
  refine AHA ((E.ext x1).ext xh) hnm (by have := hsz names[i] (List.getElem_mem hil); omega) fun h4 n x4 n0 n1 => ⟨_, rfl, ?_⟩
  have htk : names.take (i + 1) = names.take i ++ [names[i]] := by rw [List.take_add_one, hget]; rfl
  have fin : ∀ (s' : Sl) (ns' : List Nat) (h' : Heap), Ext h1 h' → Own EZ BO h' s' (ns'.map fun n : Nat => (n : Int)) → (∀ c, s'.blk = some c → h1.size ≤ c) → ns'.length ≤ i + 1 → (ns'.map (fnB nm)).Sublist (names.take (i + 1)) → (∀ n ∈ ns', 1 ≤ n ∧ n ≤ 99999999) → (∀ k : Nat, 1 ≤ k → k ≤ 99999999 → fnB nm k ∈ names.take (i + 1) → k ∈ ns') → K1 (s', ()) h' := fun s' ns' h' x' o' f' l' sb' r' a' => by
   refine hK1 _ _ ?_
   dsimp only
   rw [AR (by omega)]
   exact hK (names.length - (i + 1)) _ _ (by omega) ⟨i + 1, s', ns', rfl, x', o', f', hil, l', sb', r', a', rfl⟩
  by_cases hn : n = 0
  ·refine PIf.no (by simp [hn]) (fin sl ns h4 (xh.trans x4) (o.ext x4) f (by omega) ?_ hrng ?_)
   ·rw [htk]; exact hsub.trans (List.sublist_append_left _ _)
   ·intro k k1 k2 hk
    rw [htk] at hk
    rcases List.mem_append.1 hk with hk | hk
    ·exact hall k k1 k2 hk
    ·exact absurd (List.mem_singleton.1 hk).symm (n0 hn k k1 k2)
  ·refine PIf.yes (by simp; omega) ?_
   obtain ⟨n9, ne⟩ := n1 hn
   refine New.append1 (E := EZ) (x := (n : Int)) (s := sl) (l := ns.map fun n : Nat => (n : Int)) rfl Wz (o.ext x4) (by simp; omega) (by simp [maxLen]; omega) fun s' h6 o6 m6 b6 _ => ?_
   refine fin s' (ns ++ [n]) h6 ((xh.trans x4).more m6 f) (by rw [List.map_append]; exact o6) (fun c hc => ?_) (by simp; omega) ?_ ?_ ?_
   ·rcases b6 c hc with h | h
    ·exact f c h
    ·have := xh.size; have := x4.size; omega
   ·rw [htk, List.map_append]
    have e2 : [n].map (fnB nm) = [names[i]] := by rw [ne]; rfl
    rw [e2]
    exact hsub.append (List.Sublist.refl _)
   ·intro k hk
    rcases List.mem_append.1 hk with hk | hk
    ·exact hrng k hk
    ·rw [List.mem_singleton.1 hk]; omega
   ·intro k k1 k2 hk
    rw [htk] at hk
    rcases List.mem_append.1 hk with hk | hk
    ·exact List.mem_append.2 (.inl (hall k k1 k2 hk))
    ·have := F5 ((List.mem_singleton.1 hk).trans ne)
     exact List.mem_append.2 (.inr (by simp [this]))
 ·have hil : i = names.length := by simp at hq; omega
  subst hil
  rw [List.take_length] at hsub hall
  have hnd2 : ns.Nodup := by
   have h1 := hsub.nodup hnd
   rw [List.nodup_iff_pairwise_ne, List.pairwise_map] at h1
   rw [List.nodup_iff_pairwise_ne]
   exact h1.imp fun h e => h (by rw [e])
  obtain ⟨l, hl1, hl2, hl3⟩ := AD7 hnd2
  refine AJL o (by simp; omega) fun h7 v7 m7 => ⟨rfl, ?_⟩
  rw [hl1] at v7
  refine H h7 sl l ⟨hl2, fun n => ?_⟩ v7 ((x1.trans xh).more m7 fun c hc => by have := f c hc; have := x1.size; omega) fun c hc => by have := f c hc; have := x1.size; omega
  rw [hl3, hfind]
  constructor
  ·intro hn
   obtain ⟨r1, r2⟩ := hrng n hn
   exact ⟨r1, r2, hsub.subset (List.mem_map.2 ⟨n, hn, rfl⟩)⟩
  ·rintro ⟨r1, r2, r3⟩
   exact hall n r1 r2 r3
end Go.Lf.G

/-
 Contract: a table is opened.
-/
set_option maxRecDepth 100000
set_option linter.unusedVariables false
set_option linter.unusedSimpArgs false
namespace Go.Lf.G
open Go
structure TabAt (h : Heap) (t : Nat) (l : List Pr) (f : List UInt8) (lo hi : Nat) : Prop where
 at_ : ∃ fs bs : Sl, h[t]? = some (.cells #[.slice fs.p fs.len fs.cap, .slice bs.p bs.len bs.cap, .string (Aa f), .int .i64 (l.length : Int)] JL (0, 0)) ∧ View EC h fs (Bd l) ∧ View EC h bs ((H5 l).map fun b => Aa (Ar b)) ∧
  (∀ c, fs.blk = some c → lo ≤ c ∧ c < hi) ∧ (∀ c, bs.blk = some c → lo ≤ c ∧ c < hi)
 tlt : lo ≤ t ∧ t < hi
theorem TabAt.mod {h h' : Heap} {t : Nat} {l : List Pr} {f : List UInt8} {lo hi : Nat} {S : Nat → Prop} (T : TabAt h t l f lo hi) (m : Mod S h h') (hS : ∀ c, lo ≤ c → c < hi → ¬ S c) : TabAt h' t l f lo hi := by
 obtain ⟨fs, bs, h1, h2, h3, h4, h5⟩ := T.at_
 exact ⟨⟨fs, bs, m.blk h1 (hS t T.tlt.1 T.tlt.2), h2.mod m (fun c hc => hS c (h4 c hc).1 (h4 c hc).2), h3.mod m (fun c hc => hS c (h5 c hc).1 (h5 c hc).2), h4, h5⟩, T.tlt⟩
theorem TabAt.ext {h h' : Heap} {t : Nat} {l : List Pr} {f : List UInt8} {lo hi : Nat} (T : TabAt h t l f lo hi) (m : Ext h h') : TabAt h' t l f lo hi := T.mod m fun _ _ _ h => h
theorem RA (r : List UInt8) (rs : List (List UInt8)) : wraps (r :: rs) = Bt r ++ wraps rs := rfl
theorem AGu {A : Amb} {h : Heap} {rs : List (List UInt8)} {R : Value → Heap → Prop} (hs : ∀ r ∈ rs, r.length ≤ 1048576) (hl : (wraps rs).length ≤ 1099511627776)
  (H : ∀ h' sl, Ext h h' → View EC h' sl (rs.map Aa) → (∀ c, sl.blk = some c → h.size ≤ c ∧ c < h'.size) → R (.tuple #[.slice sl.p sl.len sl.cap, .int .i64 ((wraps rs).length : Int)]) h') : AA A P Gh #[.string (Aa (wraps rs))] h R := by
 refine Qh ?_
 unfold J2
 refine Loop.rule (fun m x hh => ∃ (i : Nat) (sl : Sl), x = (sl, Aa (wraps (rs.drop i)), ()) ∧ m = rs.length - i ∧ i ≤ rs.length ∧ Ext h hh ∧ Own EC Ad hh sl ((rs.take i).map Aa) ∧ (∀ c, sl.blk = some c → h.size ≤ c)) ?_
  ⟨0, ⟨none, 0, 0⟩, rfl, rfl, by omega, Mod.refl, Own.nil, fun c hc => by simp [Sl.blk] at hc⟩
 rintro K m _ hh ⟨i, sl, rfl, rfl, hi, xx, oo, hsl⟩ hK
 dsimp only
 have hrl : rs.length ≤ (wraps rs).length := by
  clear hl H hi oo hK
  induction rs with
  | nil => simp
  | cons r rs ih =>
   have h1 := (Fa (hs r List.mem_cons_self)).1
   have := ih fun x hx => hs x (List.mem_cons_of_mem _ hx)
   simp only [wraps, List.flatMap_cons, List.length_append, List.length_cons] at this ⊢
   omega
 have hdl : (wraps (rs.drop i)).length ≤ 1099511627776 := by
  have e : wraps rs = wraps (rs.take i) ++ wraps (rs.drop i) := by
   unfold wraps
   rw [← List.flatMap_append, List.take_append_drop]
  have := congrArg List.length e
  rw [List.length_append] at this
  omega
 refine ADv (Nat.le_trans hdl (by decide)) fun h2 x2 => ⟨_, _, _, rfl, ?_⟩
 by_cases hil : i < rs.length
 ·have hx : rs[i]? = some rs[i] := List.getElem?_eq_getElem hil
  have hr := hs _ (List.getElem_mem hil)
  have hd : rs.drop i = rs[i] :: rs.drop (i + 1) := List.drop_eq_getElem_cons hil
  have ht := PX hx
  generalize rs[i] = r at hx hr hd ht
  rw [hd, RA, Zb hr]
  refine PIf.yes rfl ?_
  refine New.append1 (E := EC) (x := Aa r) (s := sl) rfl WV (oo.ext x2) (by simp only [List.length_map, List.length_take]; omega) (by simp only [List.length_map, List.length_take, maxLen]; omega) fun s' h6 o6 m6 b6 n6 => ?_
  refine hK (rs.length - (i + 1)) _ _ (by omega) ⟨i + 1, s', rfl, rfl, hil, (xx.trans x2).more m6 hsl, ?_, fun c hc => ?_⟩
  ·rw [ht, List.map_append]; exact o6
  ·rcases b6 c hc with h | h
   ·exact hsl c h
   ·have := xx.size; have := x2.size; omega
 ·have e1 : rs.drop i = [] := List.drop_of_length_le (by omega)
  have e2 : rs.take i = rs := List.take_of_length_le (by omega)
  rw [e1]
  rw [e2] at oo
  have hn := Ox
  refine PIf.no (by simp only [wraps, List.flatMap_nil]; simpa using hn) ?_
  have e3 : IntKind.wrap .i64 (((Aa (wraps rs)).size : Int) - ((Aa (wraps [])).size : Int)) = ((wraps rs).length : Int) := by
   rw [AV, AV]
   show IntKind.wrap .i64 (((wraps rs).length : Int) - ((0 : Nat) : Int)) = _
   rw [wrap_i64 (by omega) (by omega)]; omega
  rw [e3]
  exact H h2 sl (xx.trans x2) (oo.ext x2).view fun c hc => ⟨hsl c hc, (oo.ext x2).lt hc⟩
def TD (l : List Pr) (n : Nat) : ByteArray := match n with | 0 => ⟨#[]⟩ | n + 1 => GA l n
theorem AJl {l : List Pr} (ho : ∀ p ∈ l, Ih p) (hi : l.Pairwise fun p q => sLt p.key q.key = true) {n : Nat} {p : Pr} (hp : l[n]? = some p) : (sLt p.key (TD l n) || sEq p.key (TD l n)) = false := by
 have hlt : sLt (TD l n) p.key = true := by
  cases n with
  | zero =>
   have := (ho p (List.mem_of_getElem? hp)).key
   unfold TD
   rw [R8]
   have h0 : bl p.key ≠ [] := by
    intro e
    have := Bz p.key
    rw [e] at this
    simp at this; omega
   cases h : bl p.key with
   | nil => exact absurd h h0
   | cons c t =>
    simp only [decide_eq_true_eq]
    show ([] : List UInt8) < bl p.key
    rw [h]
    exact List.nil_lt_cons c t
  | succ n =>
   have hn : n < l.length := by have := (List.getElem?_eq_some_iff.1 hp).1; omega
   have hq : l[n]? = some l[n] := List.getElem?_eq_getElem hn
   have := AAE hi hq hp
   show sLt (GA l n) p.key = true
   unfold GA
   rw [hq]
   exact this
 rw [Bool.or_eq_false_iff]
 refine ⟨?_, ?_⟩
 ·cases hs : sLt p.key (TD l n) with
  | false => rfl
  | true => have := CP hlt hs; rw [BX] at this; cases this
 ·rw [BR, decide_eq_false_iff_not]
  intro e
  rw [e, BX] at hlt; cases hlt
theorem AIQ {n N : Nat} (h : n = N + 1) (hN : N ≤ 1099511627776) : IntKind.wrap .i64 (((n : Nat) : Int) - (1 : Int)) = ((N : Nat) : Int) := by
 subst h
 rw [wrap_i64 (by omega) (by omega)]; omega
theorem WG.rs_len {s : List UInt8} {l : List Pr} {f : List UInt8} (T : WG s l f) : (wraps (framesT l f)).length ≤ 1099511627776 := by
 have := QD (KA T)
 have h2 := T.many
 have h3 : (framesT l f).length = BM l + 1 := by simp [framesT, Es]
 have h4 : BM l ≤ 12501 := by unfold BM; omega
 rw [h3] at this
 have h5 : (BM l + 1) * 1048590 ≤ 12502 * 1048590 := Nat.mul_le_mul_right _ (by omega)
 omega
theorem ADj {A : Amb} {h : Heap} {l : List Pr} {f : List UInt8} {R : Value → Heap → Prop} (T : WG (wraps (framesT l f)) l f)
  (H : ∀ h' t, Ext h h' → TabAt h' t l f h.size h'.size → R (.tuple #[BC t, .int .i64 0]) h') : AA A P IQ #[.string (Aa (wraps (framesT l f)))] h R := by
 refine YW ?_
 unfold NU
 have hpos := ACV T.ne
 have hmany := T.many
 have hN : BM l ≤ 12501 := by unfold BM; omega
 have hfl := T.flen
 refine AGu (KA T) (WG.rs_len T) fun h1 sl x1 v1 b1 => ⟨sl, _, rfl, ?_⟩
 have hsl : sl.len = BM l + 1 := by rw [v1.len]; simp [framesT, Es]
 have hcap := v1.cap
 rw [AIQ hsl (by omega)]
 refine Join.mk fun K hK => ?_
 refine PIf.no (by rw [AV]; simp) ?_
 refine hK _ _ (PIf.no (by rw [hsl]; simp; omega) ?_)
 clear hK
 simp only [Int.toNat_natCast, Nat.sub_zero]
 refine ⟨⟨by omega, by omega⟩, ?_⟩
 have hfoot : ((framesT l f).map Aa)[BM l]? = some (Aa (Qd l f)) := by
  rw [List.getElem?_map]
  unfold framesT
  rw [List.getElem?_append_right (by simp [Es])]
  simp [Es]
 refine v1.idx hfoot fun a ha hc => ?_
 refine AC.mk hc.str ?_
 have hft := R4 T
 refine SN fun h3 r3 x3 => ⟨_, rfl, ?_⟩
 have ht_ne : ∀ {h : Heap} {s : Sl} {ks : List ByteArray}, Own EC Ad h s ks → ∀ {c : Nat} {r : Rd}, JX h c r → s.blk ≠ some c := fun o c r hr => o.ne hr (by decide)
 refine New.mk fun h4 _ hb4 x4 hs4 => ?_
 have r4 : JX h4 h1.size _ := Ab x4 r3
 have l1 := Ai (n := BM l) (by omega)
 have efoot : Qd l f = CG (BM l) ++ (Ep (Bd l) ++ (CG l.length ++ Cm f)) := by unfold Qd Ep; simp only [List.append_assoc]
 rw [efoot] at r4 hft
 have l2 := Ai (n := l.length) (by omega)
 have ltx : (Cm f).length = (CG f.length).length + f.length := by simp [Cm]
 have l3 := Ai (n := f.length) (by omega)
 have hixl := MO (ks := Bd l) (KL T.ok)
 rw [FJ] at hixl
 refine JK (most := BM l) r4 (Nat.le_trans hft (by decide)) (by omega) fun h5 r5 m5 => ⟨_, rfl, ?_⟩
 rw [IX (by omega) (Nat.le_refl _)] at r5 ⊢
 dsimp only at r5 ⊢
 refine PIf.no (by simp) ?_
 have hbr : h1.size < h3.size := Am r3
 have hb5 := m5.blk hb4 (by omega)
 have xx4 : Ext h h4 := (x1.trans x3).trans x4
 have xx5 : Ext h h5 := xx4.more m5 (fun b hb => by rw [hb]; exact x1.size)
 have vbs : ∀ {hh : Heap}, (∀ c, sl.blk = some c → hh[c]? = h1[c]?) → View EC hh ⟨Ao sl.p sl.cap 0 1, BM l, sl.cap⟩ ((H5 l).map fun b => Aa (Ar b)) := by
  intro hh hc
  have v : View EC hh sl ((framesT l f).map Aa) := ⟨v1.len, v1.cap, fun i x hi => by
   obtain ⟨a, ha, hcc⟩ := v1.cells i x hi
   refine ⟨a, ha, fun j v hj => ?_⟩
   rw [← hcc j v hj]
   exact KM (by rw [add_block, add_block]; exact hc _ (by simp [Sl.blk, ha]))⟩
  have := v.sub (lo := 0) (hi := BM l) (Nat.zero_le _) (by simp [framesT, Es])
  have e : (((framesT l f).map Aa).take (BM l)).drop 0 = (H5 l).map fun b => Aa (Ar b) := by
   rw [List.drop_zero, List.map_take.symm]
   unfold framesT
   rw [List.take_append_of_le_length (by simp [Es]), List.take_of_length_le (by simp [Es]), List.map_map]
   rfl
  rw [e] at this
  exact this
 generalize hT0 : h3.size = t0 at *
 refine Loop.rule (fun m x hh => ∃ (i : Nat) (fs : Sl), x = ((i : Int), ()) ∧ m = BM l - i ∧ i ≤ BM l ∧ JX hh h1.size ⟨Ep ((Bd l).drop i) ++ (CG l.length ++ Cm f), false⟩ ∧
  hh[t0]? = some (.cells #[.slice fs.p fs.len fs.cap, .slice (Ao sl.p sl.cap 0 1) (BM l) sl.cap, .string ⟨#[]⟩, .int .i64 0] JL (0, 0)) ∧ Own EC Ad hh fs ((Bd l).take i) ∧ (∀ c, fs.blk = some c → t0 < c) ∧
  Mod (fun c => c = h1.size ∨ t0 ≤ c) h4 hh) ?_ ⟨0, ⟨none, 0, 0⟩, rfl, rfl, by omega, r5, hb5, Own.nil, fun c hc => by simp [Sl.blk] at hc, m5.weak fun c _ hc => .inl hc⟩
 rintro K1 m _ h6 ⟨i, fs, rfl, rfl, hi, r6, hb6, o6, hf6, m6⟩ hK1
 dsimp only
 refine PIf.intro (fun hq => ?_) (fun hq => ?_)
 ·have hil : i < BM l := by simp at hq; omega
  refine AQ.mk (s := fs) (AJ hb6 rfl) ?_
  have hx := Mx hil
  have hd : (Bd l).drop i = GA l (8 * i) :: (Bd l).drop (i + 1) := by
   have hlt : i < (Bd l).length := by rw [FJ]; exact hil
   rw [List.drop_eq_getElem_cons hlt]
   congr 1
   rw [List.getElem?_eq_getElem hlt] at hx
   exact Option.some.inj hx
  have htk := PX hx
  have hkm := KL T.ok _ (List.mem_of_getElem? hx)
  generalize GA l (8 * i) = k at hx hd htk hkm
  have ed : Ep ((Bd l).drop i) ++ (CG l.length ++ Cm f) = Cm (bl k) ++ (Ep ((Bd l).drop (i + 1)) ++ (CG l.length ++ Cm f)) := by rw [hd]; simp [Ep]
  have hdl := MO (ks := (Bd l).drop i) fun k hk => KL T.ok k (List.mem_of_mem_drop hk)
  rw [List.length_drop, FJ] at hdl
  have hrl : (Ep ((Bd l).drop i) ++ (CG l.length ++ Cm f)).length < 1099511627776 := by simp only [List.length_append]; omega
  rw [ed] at r6 hrl
  refine Pt r6 hrl fun h7 r7 m7 => ⟨_, rfl, ?_⟩
  rw [Tm (by rw [Bz]; omega)] at r7 ⊢
  dsimp only at r7 ⊢
  rw [IL]
  have hb7 := m7.blk hb6 (by omega)
  have o7 := o6.mod m7 (fun c hc h => ht_ne o6 r6 (h ▸ hc))
  refine ⟨AJ hb7 rfl, ?_⟩
  refine New.mk fun h8 _ hb8 x8 hs8 => ⟨AJ (Ab x8 hb7) rfl, ?_⟩
  have hown8 : Own EC Ad h8 ⟨some ⟨h7.size, 0, none⟩, 1, 1⟩ [k] := Own.lit (E := EC) (l := [k]) hb8 rfl (by simp [maxLen])
  refine GZ (s := fs) (src := ⟨some ⟨h7.size, 0, none⟩, 1, 1⟩) WV (o7.ext x8) hown8.view (by simp only [List.length_take, List.length_singleton]; omega) (by simp only [List.length_take, List.length_singleton, maxLen]; omega) fun fs' h9 o9 m9 hn9 hp9 => ?_
  have hlt7 : t0 < h7.size := Am hb7
  have hfs7 : ∀ c, fs.blk = some c → c < h7.size := fun c hc => o7.lt hc
  have hb9 := m9.blk (Ab x8 hb7) (fun h => by have := hf6 _ h; omega)
  refine Store.mk hb9 (by simp) fun h10 hb10 m10 hs10 => ?_
  have hf' : ∀ c, fs'.blk = some c → t0 < c := fun c hc => by
   rcases hn9 c hc with h | h
   ·exact hf6 c h
   ·omega
  rw [AR (by omega)]
  refine hK1 (BM l - (i + 1)) _ _ (by omega) ⟨i + 1, fs', rfl, rfl, hil, ?_, by simpa using hb10, ?_, hf', ?_⟩
  ·refine m10.blk (m9.blk (Ab x8 r7) fun h => ?_) (by omega)
   exact ht_ne o7 r7 h
  ·rw [htk]
   exact o9.mod m10 (fun c hc h => by have := hf' c hc; omega)
  ·have a1 : Mod (fun c => c = h1.size ∨ t0 ≤ c) h6 h7 := m7.weak fun c _ hc => .inl hc
   exact (((m6.trans a1).trans x8.mod).trans (m9.weak fun c _ hc => .inr (by have := hf6 c hc; omega))).trans (m10.weak fun c _ hc => .inr (by omega))
 ·have hil : i = BM l := by simp at hq; omega
  subst hil
  clear hK1
  have e1 : (Bd l).drop (BM l) = [] := List.drop_of_length_le (by rw [FJ]; omega)
  have e2 : (Bd l).take (BM l) = Bd l := List.take_of_length_le (by rw [FJ]; omega)
  rw [e1] at r6
  rw [e2] at o6
  have e8 : IntKind.wrap .i64 (((BM l : Nat) : Int) * (8 : Int)) = ((BM l * 8 : Nat) : Int) := by rw [wrap_i64 (by omega) (by omega)]; omega
  rw [e8]
  have r6 : JX h6 h1.size ⟨CG l.length ++ Cm f, false⟩ := r6
  have hl8 : l.length ≤ BM l * 8 := by unfold BM; omega
  refine JK (most := BM l * 8) r6 (by simp only [List.length_append]; omega) (by omega) fun h11 r11 m11 => ⟨_, rfl, ?_⟩
  rw [IX (by omega) hl8] at r11 ⊢
  dsimp only at r11 ⊢
  have hb11 := m11.blk hb6 (by omega)
  rw [Bw, Bw]
  refine Store.mk hb11 (by simp) fun h12 hb12 m12 hs12 => ?_
  have r12 : JX h12 h1.size ⟨Cm f ++ [], false⟩ := by rw [List.append_nil]; exact m12.blk r11 (by omega)
  refine Pt r12 (by show (Cm f ++ []).length < _; rw [List.append_nil]; omega) fun h13 r13 m13 => ⟨_, rfl, ?_⟩
  rw [Tm (by omega)] at r13 ⊢
  dsimp only at r13 ⊢
  have hb13 := m13.blk hb12 (by omega)
  refine Store.mk hb13 (by simp) fun h14 hb14 m14 hs14 => ?_
  have r14 := m14.blk r13 (show h1.size ≠ t0 by omega)
  have hb14 : h14[t0]? = some (.cells #[.slice fs.p fs.len fs.cap, .slice (Ao sl.p sl.cap 0 1) (BM l) sl.cap, .string (Aa f), .int .i64 (l.length : Int)] JL (0, 0)) := by simpa using hb14
  have o14 : Own EC Ad h14 fs (Bd l) := by
   have a1 := o6.mod m11 (fun c hc h => ht_ne o6 r6 (h ▸ hc))
   have a2 := a1.mod m12 (fun c hc h => by have := hf6 c hc; omega)
   have a3 := a2.mod m13 (fun c hc h => ht_ne a2 r12 (h ▸ hc))
   exact a3.mod m14 (fun c hc h => by have := hf6 c hc; omega)
  have m414 : Mod (fun c => c = h1.size ∨ t0 ≤ c) h4 h14 :=
   (((m6.trans (m11.weak fun c _ hc => .inl hc)).trans (m12.weak fun c _ hc => .inr (by omega))).trans (m13.weak fun c _ hc => .inl hc)).trans (m14.weak fun c _ hc => .inr (by omega))
  have hsl1 : h1.size ≤ t0 := by omega
  have ext14 : Ext h h14 := by
   refine ⟨by have := xx4.size; have := m414.size; omega, fun c hc _ => ?_⟩
   have := x1.size
   have := xx4.size
   exact (m414.get c (by omega) (by omega)).trans (xx4.get c hc (fun h => h))
  have slk : ∀ {hh : Heap}, Ext h14 hh → ∀ c, sl.blk = some c → hh[c]? = h1[c]? := by
   intro hh x c hc
   have := b1 c hc
   have h4s := m414.size
   have := x4.size
   have := x3.size
   exact ((x.get c (by omega) (fun h => h)).trans (m414.get c (by omega) (by omega))).trans ((x4.get c (by omega) (fun h => h)).trans (x3.get c (by omega) (fun h => h)))
  have hsb : ∀ c, Sl.blk ⟨Ao sl.p sl.cap 0 1, BM l, sl.cap⟩ = some c → h.size ≤ c ∧ c < h1.size := fun c hc => b1 c (Ps hc)
  refine Join.mk fun K2 hK2 => ?_
  refine Vm r14 ⟨_, rfl, PIf.no rfl ?_⟩
  have hfne : f ≠ [] := fun e => by rw [e] at hfl; simp at hfl
  refine AC.mk (AJ hb14 rfl) (PIf.no ?_ ?_)
  ·rw [Rq, HV, decide_eq_false_iff_not]; exact hfne
  refine AC.mk (AJ hb14 rfl) ?_
  refine hK2 _ _ (PIf.no (by rw [AV]; simp; omega) ?_)
  clear hK2
  refine Loop.rule (fun m x hh => ∃ i : Nat, x = (TD l (min (8 * i) l.length), ((min (8 * i) l.length : Nat) : Int), (i : Int), ()) ∧ m = BM l - i ∧ i ≤ BM l ∧ Ext h14 hh) ?_ ⟨0, by simp [TD], rfl, by omega, Mod.refl⟩
  rintro K3 m _ h16 ⟨i, rfl, rfl, hi, x16⟩ hK3
  dsimp only
  have hb16 := Ab x16 hb14
  refine PIf.intro (fun hq => ?_) (fun hq => ?_)
  ·have hin : i < BM l := by simp at hq; omega
   have hbl := Md hin
   have hi8 : 8 * i < l.length := by unfold BM at hin; omega
   have hmin : min (8 * i) l.length = 8 * i := by omega
   rw [hmin]
   have hxb : ((H5 l).map fun b => Aa (Ar b))[i]? = some (Aa (Ar (BQ l i))) := by simp [H5, hin]
   refine (vbs (slk x16)).idx hxb fun a1 ha1 hc1 => ?_
   rw [Int.toNat_natCast]
   refine AC.mk hc1.str ?_
   have hob : ∀ p ∈ BQ l i, Ih p := fun p hp => T.ok p (LJ hp)
   have hbp := ME T.ok hin
   refine YC hob (by omega) fun ps h17 op x17 bp => ⟨_, _, rfl, ?_⟩
   have hb17 := Ab x17 hb16
   have hpl : ps.len = (BQ l i).length := op.len
   refine Join.mk fun K4 hK4 => ?_
   have h0 : (BQ l i)[0]? = some (BQ l i)[0] := List.getElem?_eq_getElem (by omega)
   have hk0 : GA l (8 * i) = (BQ l i)[0].key := by
    have := Mo (l := l) (i := i) (j := 0) (by omega)
    rw [h0] at this
    unfold GA
    rw [Nat.add_zero] at this
    rw [← this]
   generalize (BQ l i)[0] = p0 at h0 hk0
   have go : K4 (false, ()) h17 := by
    refine hK4 _ _ (PIf.no rfl ?_)
    refine Loop.rule (fun m x hh => ∃ j : Nat, x = (TD l (8 * i + j), ((8 * i + j : Nat) : Int), (j : Int), ()) ∧ m = (BQ l i).length - j ∧ j ≤ (BQ l i).length ∧ Ext h17 hh) ?_ ⟨0, by simp, rfl, by omega, Mod.refl⟩
    rintro K5 m _ h19 ⟨j, rfl, rfl, hj, x19⟩ hK5
    dsimp only
    refine PIf.intro (fun hq => ?_) (fun hq => ?_)
    ·have hjl : j < (BQ l i).length := by rw [hpl] at hq; simp at hq; omega
     have hx : (BQ l i)[j]? = some (BQ l i)[j] := List.getElem?_eq_getElem hjl
     have hmem : (BQ l i)[j] ∈ l := LJ (List.getElem_mem hjl)
     have hxl : l[8 * i + j]? = some (BQ l i)[j] := by rw [← Mo (by omega)]; exact hx
     generalize (BQ l i)[j] = p at hx hmem hxl
     have hox := T.ok p hmem
     refine (op.ext x19).view.idx hx fun a2 ha2 hc2 => ?_
     obtain ⟨c0, c1, c2⟩ := hc2.pair
     rw [Int.toNat_natCast]
     refine AC.mk c0 (AC.mk c1 (AY.mk c2 ?_))
     refine New.pair fun b2 h23 hbe hb23 x23 hs23 => ?_
     refine Join.mk fun K6 hK6 => ?_
     refine AC.mk (AJ hb23 rfl) ?_
     rw [AJl T.ok T.inc hxl]
     refine PIf.no rfl ?_
     have hbt := Ab x23 (Ab x19 hb17)
     refine AC.mk (AJ hbt rfl) ?_
     refine AC.mk (AJ hb23 rfl) ?_
     have hkm := hox.keyMost
     refine AHg (by omega) ⟨_, rfl, ?_⟩
     rw [HV, T.has p hmem]
     refine hK6 _ _ (PIf.no rfl ?_)
     refine AC.mk (AJ hb23 rfl) ?_
     rw [AR (by omega), AR (by omega)]
     refine hK5 ((BQ l i).length - (j + 1)) _ _ (by omega) ⟨j + 1, ?_, rfl, hjl, x19.trans x23⟩
     have ek : TD l (8 * i + (j + 1)) = p.key := by
      show GA l (8 * i + j) = p.key
      unfold GA
      rw [hxl]
     rw [ek]
     rfl
    ·have hjl : j = (BQ l i).length := by rw [hpl] at hq; simp at hq; omega
     rw [AR (by omega)]
     have hend : min (8 * (i + 1)) l.length = 8 * i + j := by
      rw [hjl]
      unfold BQ
      rw [List.length_take, List.length_drop]
      omega
     refine hK3 (BM l - (i + 1)) _ _ (by omega) ⟨i + 1, ?_, rfl, hin, (x16.trans x17).trans x19⟩
     rw [hend]
   have ends : Idx ps.p ps.len 0 fun a3 => AC h17 (a3.add ((0 : Int).toNat * 3)) fun t140 => AQ h17 (⟨t0, 0, none⟩ : Addr) fun t144 => Idx t144.p t144.len ((i : Nat) : Int) fun a4 => AC h17 (a4.add (((i : Nat) : Int).toNat * 1)) fun t147 => K4 ((!sEq t140 t147), ()) h17 := by
    obtain ⟨a3, ha3, hc3⟩ := op.view.cells 0 p0 h0
    rw [Nat.zero_mul, add_zero] at hc3
    refine Idx.mk (k := 0) ha3 (by omega) ?_
    refine AC.mk (n := p0.key) (by show hget h17 (a3.add 0) = _; rw [add_zero]; exact hc3.pair.1) ?_
    refine AQ.mk (s := fs) (AJ hb17 rfl) ?_
    refine ((o14.ext x16).ext x17).view.idx (Mx hin) fun a4 ha4 hc4 => ?_
    rw [Int.toNat_natCast]
    refine AC.mk hc4.str ?_
    rw [hk0, BR, decide_eq_true rfl]
    exact go
   refine PIf.no rfl (PIf.no (by rw [hpl]; simp; intro e; rw [e] at hbl; simp at hbl) (PIf.no (by rw [hpl]; simp; omega) ?_))
   rw [AR (by omega)]
   refine PIf.intro (fun hq => ?_) (fun _ => ends)
   have : i + 1 < BM l := by simp at hq; omega
   exact PIf.no (by rw [hpl, hbl.2.2 this]; rfl) ends
  ·have hin : i = BM l := by simp at hq; omega
   have hend : min (8 * i) l.length = l.length := by rw [hin]; omega
   rw [hend]
   refine AZ.mk (AJ hb16 rfl) (PIf.no (by simp) ?_)
   refine H h16 t0 (ext14.trans x16) ⟨⟨fs, ⟨Ao sl.p sl.cap 0 1, BM l, sl.cap⟩, hb16, (o14.ext x16).view, vbs (slk x16), fun c hc => ?_, fun c hc => ?_⟩, ?_⟩
   ·have h1 := (o14.ext x16).lt hc
    have := hf6 c hc
    have := x1.size
    omega
   ·have h1 := hsb c hc
    have := m414.size
    have := x16.size
    have := x4.size
    have := x3.size
    omega
   ·have := Am hb16
    have := x1.size
    omega
end Go.Lf.G

/-
 The formulas of functions, printed by lift.py; each with the theorem that it is what the lift reckons of the program.
-/
set_option linter.unusedVariables false
set_option maxRecDepth 100000
namespace Go.Lf.G
def Lr (A : Amb) (n : Int) (f : Value) (h : Heap) (R : Value → Heap → Prop) : Prop :=
 Loop (fun K (s : Int × Int × Unit) h1 =>
  PIf (decide (s.1 < s.2.1)) (
   Join (fun (s1 : Int × Int × Unit) h2 =>
     K (s1.1, s1.2.1, ()) h2) fun K1 =>
    Eh A P f #[.int .i64 (IntKind.wrap .i64 ((IntKind.wrap .u64 (IntKind.wrap .i64 (s.1 + s.2.1))).fdiv ((2 : Int) ^ (1 : Nat))))] h1 fun v h3 => ∃ t20 : Bool, v = .bool t20 ∧ (
    PIf (!t20) (
     K1 ((IntKind.wrap .i64 ((IntKind.wrap .i64 ((IntKind.wrap .u64 (IntKind.wrap .i64 (s.1 + s.2.1))).fdiv ((2 : Int) ^ (1 : Nat)))) + (1 : Int))), s.2.1, ()) h3) (
     K1 (s.1, (IntKind.wrap .i64 ((IntKind.wrap .u64 (IntKind.wrap .i64 (s.1 + s.2.1))).fdiv ((2 : Int) ^ (1 : Nat)))), ()) h3))) (
   R (.int .i64 s.1) h1)) (0, n, ()) h
def Yp : Ann := .seq .none (.seq .none (.seq (.block (.loop [(5, .one (.int .i64)), (6, .one (.int .i64))] [1] (.seq (.seq .none (.cond .none .none)) (.blockJ [(5, .one (.int .i64)), (6, .one (.int .i64))] [1] (.seq .none (.seq .none (.cond .none .none))))))) (.seq .none .none)))
theorem Yh (A : Amb) (n : Int) (f : Value) (h : Heap) (R : Value → Heap → Prop) : Lr A n f h R = AX A P JH Yp [.int .i64 n, f] h R := by kernel_rfl
theorem Wq {A : Amb} {n : Int} {f : Value} {h : Heap} {R : Value → Heap → Prop} (H : Lr A n f h R) : AA A P JH #[.int .i64 n, f] h R :=
 AL mixed (Yh A n f h R ▸ H)
def DR (A : Amb) (s : Sl) (v : Int) (h : Heap) (R : Value → Heap → Prop) : Prop :=
 AA A P Dw #[.slice s.p s.len s.cap, .int .i64 v] h fun v1 h1 => ∃ t7 : Int, v1 = .int .i64 t7 ∧ (
 R (.bool (decide (t7 ≥ (0 : Int)))) h1)
def Ir : Ann := .seq .none (.seq .none .none)
theorem Iz (A : Amb) (s : Sl) (v : Int) (h : Heap) (R : Value → Heap → Prop) : DR A s v h R = AX A P CV Ir [.slice s.p s.len s.cap, .int .i64 v] h R := by kernel_rfl
theorem Ij {A : Amb} {s : Sl} {v : Int} {h : Heap} {R : Value → Heap → Prop} (H : DR A s v h R) : AA A P CV #[.slice s.p s.len s.cap, .int .i64 v] h R :=
 AL mixed (Iz A s v h R ▸ H)
def Dv (A : Amb) (s : Sl) (v : Int) (h : Heap) (R : Value → Heap → Prop) : Prop :=
 Loop (fun K (s1 : Int × Unit) h1 =>
  PIf (decide (s1.1 < ((s.len : Nat) : Int))) (
   Idx s.p s.len s1.1 fun a =>
   AZ .i64 h1 (a.add (s1.1.toNat * 1)) fun t15 =>
   PIf (v == t15) (
    R (.int .i64 s1.1) h1) (
    K ((IntKind.wrap .i64 (s1.1 + (1 : Int))), ()) h1)) (
   R (.int .i64 (-1)) h1)) (0, ()) h
def KD : Ann := .seq .none (.seq (.seq .none (.block (.loop [(8, .one (.int .i64))] [0, 1, 7] (.seq .none (.seq (.cond .none .none) (.seq (.block (.seq .none (.seq .none (.cond (.seq .none .none) .none)))) .none)))))) (.seq .none .none))
theorem Jy (A : Amb) (s : Sl) (v : Int) (h : Heap) (R : Value → Heap → Prop) : Dv A s v h R = AX A P Dw KD [.slice s.p s.len s.cap, .int .i64 v] h R := by kernel_rfl
theorem Jf {A : Amb} {s : Sl} {v : Int} {h : Heap} {R : Value → Heap → Prop} (H : Dv A s v h R) : AA A P Dw #[.slice s.p s.len s.cap, .int .i64 v] h R :=
 AL mixed (Jy A s v h R ▸ H)
def Dp (A : Amb) (s : Sl) (i : Int) (v : Sl) (h : Heap) (R : Value → Heap → Prop) : Prop :=
 Chk ((0 : Int) ≤ i ∧ i ≤ ((s.len : Nat) : Int)) <|
 PIf (((v.len : Nat) : Int) == (0 : Int)) (
  R (.slice s.p s.len s.cap) h) (
  PIf (i == ((s.len : Nat) : Int)) (
   Ba A P (Builtin.append_ #[Bl, Bl] Bl #[.slice s.p s.len s.cap, .slice v.p v.len v.cap]) h fun v1 h1 => ∃ t25 : Sl, v1 = .slice t25.p t25.len t25.cap ∧ (
   R (.slice t25.p t25.len t25.cap) h1)) (
   PIf (decide ((IntKind.wrap .i64 (((s.len : Nat) : Int) + ((v.len : Nat) : Int))) > ((s.cap : Nat) : Int))) (
    Chk ((0 : Int) ≤ i ∧ i ≤ ((s.cap : Nat) : Int)) <|
    Ba A P (Builtin.append_ #[Bl, BO] Bl #[.slice (Ao s.p s.cap 0 1) (i.toNat - 0) (s.cap - 0), .int .i64 (IntKind.wrap .i64 ((IntKind.wrap .i64 (((s.len : Nat) : Int) + ((v.len : Nat) : Int))) - i))]) h fun v2 h2 => ∃ t40 : Sl, v2 = .slice t40.p t40.len t40.cap ∧ (
    Chk ((0 : Int) ≤ i ∧ i ≤ ((t40.len : Nat) : Int)) <|
    Ba A P (Builtin.copy_ #[Bl, Bl] BO #[.slice (Ao t40.p t40.cap i.toNat 1) (t40.len - i.toNat) (t40.cap - i.toNat), .slice v.p v.len v.cap]) h2 fun v3 h3 => ∃ t45 : Int, v3 = .int .i64 t45 ∧ (
    Chk ((0 : Int) ≤ (IntKind.wrap .i64 (i + ((v.len : Nat) : Int))) ∧ (IntKind.wrap .i64 (i + ((v.len : Nat) : Int))) ≤ ((t40.len : Nat) : Int)) <|
    Chk ((0 : Int) ≤ i ∧ i ≤ ((s.len : Nat) : Int)) <|
    Ba A P (Builtin.copy_ #[Bl, Bl] BO #[.slice (Ao t40.p t40.cap ((IntKind.wrap .i64 (i + ((v.len : Nat) : Int))).toNat) 1) (t40.len - ((IntKind.wrap .i64 (i + ((v.len : Nat) : Int))).toNat)) (t40.cap - ((IntKind.wrap .i64 (i + ((v.len : Nat) : Int))).toNat)), .slice (Ao s.p s.cap i.toNat 1) (s.len - i.toNat) (s.cap - i.toNat)]) h3 fun v4 h4 => ∃ t54 : Int, v4 = .int .i64 t54 ∧ (
    R (.slice t40.p t40.len t40.cap) h4)))) (
    Chk ((0 : Int) ≤ (IntKind.wrap .i64 (((s.len : Nat) : Int) + ((v.len : Nat) : Int))) ∧ (IntKind.wrap .i64 (((s.len : Nat) : Int) + ((v.len : Nat) : Int))) ≤ ((s.cap : Nat) : Int)) <|
    Chk ((0 : Int) ≤ (IntKind.wrap .i64 (i + ((v.len : Nat) : Int))) ∧ (IntKind.wrap .i64 (i + ((v.len : Nat) : Int))) ≤ (((((IntKind.wrap .i64 (((s.len : Nat) : Int) + ((v.len : Nat) : Int))).toNat) - 0) : Nat) : Int)) <|
    AJS A P Ee #[.slice v.p v.len v.cap, .slice (Ao (Ao s.p s.cap 0 1) (s.cap - 0) ((IntKind.wrap .i64 (i + ((v.len : Nat) : Int))).toNat) 1) ((((IntKind.wrap .i64 (((s.len : Nat) : Int) + ((v.len : Nat) : Int))).toNat) - 0) - ((IntKind.wrap .i64 (i + ((v.len : Nat) : Int))).toNat)) ((s.cap - 0) - ((IntKind.wrap .i64 (i + ((v.len : Nat) : Int))).toNat))] h fun v5 h5 => ∃ t67 : Bool, v5 = .bool t67 ∧ (
    PIf (!t67) (
     Chk ((0 : Int) ≤ (IntKind.wrap .i64 (i + ((v.len : Nat) : Int))) ∧ (IntKind.wrap .i64 (i + ((v.len : Nat) : Int))) ≤ (((((IntKind.wrap .i64 (((s.len : Nat) : Int) + ((v.len : Nat) : Int))).toNat) - 0) : Nat) : Int)) <|
     Chk ((0 : Int) ≤ i ∧ i ≤ (((((IntKind.wrap .i64 (((s.len : Nat) : Int) + ((v.len : Nat) : Int))).toNat) - 0) : Nat) : Int)) <|
     Ba A P (Builtin.copy_ #[Bl, Bl] BO #[.slice (Ao (Ao s.p s.cap 0 1) (s.cap - 0) ((IntKind.wrap .i64 (i + ((v.len : Nat) : Int))).toNat) 1) ((((IntKind.wrap .i64 (((s.len : Nat) : Int) + ((v.len : Nat) : Int))).toNat) - 0) - ((IntKind.wrap .i64 (i + ((v.len : Nat) : Int))).toNat)) ((s.cap - 0) - ((IntKind.wrap .i64 (i + ((v.len : Nat) : Int))).toNat)), .slice (Ao (Ao s.p s.cap 0 1) (s.cap - 0) i.toNat 1) ((((IntKind.wrap .i64 (((s.len : Nat) : Int) + ((v.len : Nat) : Int))).toNat) - 0) - i.toNat) ((s.cap - 0) - i.toNat)]) h5 fun v6 h6 => ∃ t77 : Int, v6 = .int .i64 t77 ∧ (
     Chk ((0 : Int) ≤ i ∧ i ≤ (((((IntKind.wrap .i64 (((s.len : Nat) : Int) + ((v.len : Nat) : Int))).toNat) - 0) : Nat) : Int)) <|
     Ba A P (Builtin.copy_ #[Bl, Bl] BO #[.slice (Ao (Ao s.p s.cap 0 1) (s.cap - 0) i.toNat 1) ((((IntKind.wrap .i64 (((s.len : Nat) : Int) + ((v.len : Nat) : Int))).toNat) - 0) - i.toNat) ((s.cap - 0) - i.toNat), .slice v.p v.len v.cap]) h6 fun v7 h7 => ∃ t82 : Int, v7 = .int .i64 t82 ∧ (
     R (.slice (Ao s.p s.cap 0 1) (((IntKind.wrap .i64 (((s.len : Nat) : Int) + ((v.len : Nat) : Int))).toNat) - 0) (s.cap - 0)) h7))) (
     Chk ((0 : Int) ≤ ((s.len : Nat) : Int) ∧ ((s.len : Nat) : Int) ≤ (((((IntKind.wrap .i64 (((s.len : Nat) : Int) + ((v.len : Nat) : Int))).toNat) - 0) : Nat) : Int)) <|
     Ba A P (Builtin.copy_ #[Bl, Bl] BO #[.slice (Ao (Ao s.p s.cap 0 1) (s.cap - 0) (((s.len : Nat) : Int).toNat) 1) ((((IntKind.wrap .i64 (((s.len : Nat) : Int) + ((v.len : Nat) : Int))).toNat) - 0) - (((s.len : Nat) : Int).toNat)) ((s.cap - 0) - (((s.len : Nat) : Int).toNat)), .slice v.p v.len v.cap]) h5 fun v8 h8 => ∃ t88 : Int, v8 = .int .i64 t88 ∧ (
     Chk ((0 : Int) ≤ i ∧ i ≤ (((((IntKind.wrap .i64 (((s.len : Nat) : Int) + ((v.len : Nat) : Int))).toNat) - 0) : Nat) : Int)) <|
     AA A P F4 #[.slice (Ao (Ao s.p s.cap 0 1) (s.cap - 0) i.toNat 1) ((((IntKind.wrap .i64 (((s.len : Nat) : Int) + ((v.len : Nat) : Int))).toNat) - 0) - i.toNat) ((s.cap - 0) - i.toNat), .int .i64 ((v.len : Nat) : Int)] h8 fun v9 h9 => v9 = .tuple #[] ∧ (
     R (.slice (Ao s.p s.cap 0 1) (((IntKind.wrap .i64 (((s.len : Nat) : Int) + ((v.len : Nat) : Int))).toNat) - 0) (s.cap - 0)) h9)))))))
def Jh : Ann := .seq .none (.seq .none (.seq .none (.seq (.seq .none (.cond (.seq .none .none) .none)) (.seq .none (.seq (.seq .none (.cond (.seq .none .none) .none)) (.seq (.seq .none (.cond (.seq .none (.seq .none (.seq .none (.seq .none .none)))) .none)) (.seq .none (.seq (.seq .none (.cond (.seq .none (.seq .none (.seq .none .none))) .none)) (.seq .none (.seq .none (.seq .none .none)))))))))))
theorem Je (A : Amb) (s : Sl) (i : Int) (v : Sl) (h : Heap) (R : Value → Heap → Prop) : Dp A s i v h R = AX A P Bf Jh [.slice s.p s.len s.cap, .int .i64 i, .slice v.p v.len v.cap] h R := by kernel_rfl
theorem JO {A : Amb} {s : Sl} {i : Int} {v : Sl} {h : Heap} {R : Value → Heap → Prop} (H : Dp A s i v h R) : AA A P Bf #[.slice s.p s.len s.cap, .int .i64 i, .slice v.p v.len v.cap] h R :=
 AL mixed (Je A s i v h R ▸ H)
end Go.Lf.G

/-
 Contracts of the functions over lists of pairs.
-/
set_option maxRecDepth 100000
namespace Go.Lf.G.M
open Go Go.Lf Go.Lf.G
theorem AH6 : P.underlying AO = some (.struct (P.fieldsOf AO)) := by kernel_rfl
theorem AKE : (P.stoodInHeld AO = false) := by kernel_rfl
theorem AKG : (P.eqGuardType P.depth AO = false) := by kernel_rfl
theorem Sr : (P.fieldsOf AO).toList = [⟨ "Key", Ad, 0, false, "", "", 0⟩, ⟨ "Val", Ad, 1, false, "", "", 16⟩, ⟨ "Gone", Jj, 2, false, "", "", 32⟩] := by kernel_rfl
theorem Il : P.underlying Ad = some .string := by kernel_rfl
theorem Ms : P.underlying Jj = some .bool := by kernel_rfl
theorem ABa : P.plainKey Ad = true := by kernel_rfl
theorem AF7 : P.plainKey Jj = true := by kernel_rfl
theorem toList_inj {a b : ByteArray} : (a.toList == b.toList) = decide (a = b) := by
 rw [ByteArray.toList_eq, ByteArray.toList_eq]
 rw [Bool.eq_iff_iff]
 simp [ByteArray.ext_iff, ← Array.toList_inj]
theorem AJ7 {A : Amb} {o1 o2 : Operand} {x y : Pr} {h : Heap} {K : Value → Heap → Prop} (H : K (.bool (!decide (x = y))) h) :
  Ba A P (do eqGuard .neq AO o1 o2 (.agg #[.string x.key, .string x.val, .bool x.gone]) (.agg #[.string y.key, .string y.val, .bool y.gone]); binOp .neq AO (.agg #[.string x.key, .string x.val, .bool x.gone]) (.agg #[.string y.key, .string y.val, .bool y.gone])) h K := by
 intro n
 refine ⟨_, h, n, ?_, H⟩
 have e : decide (x = y) = (decide (x.key = y.key) && (decide (x.val = y.val) && decide (x.gone = y.gone))) := by
  cases x; cases y; simp
 have h1 : ∀ w, (part Ad #[.string x.key, .string x.val, .bool x.gone] 0).run P w = .ok (.string x.key) w := fun w => run_part_plain w ABa rfl
 have h2 : ∀ w, (part Ad #[.string x.key, .string x.val, .bool x.gone] 1).run P w = .ok (.string x.val) w := fun w => run_part_plain w ABa rfl
 have h3 : ∀ w, (part Jj #[.string x.key, .string x.val, .bool x.gone] 2).run P w = .ok (.bool x.gone) w := fun w => run_part_plain w AF7 rfl
 have h4 : ∀ w, (part Ad #[.string y.key, .string y.val, .bool y.gone] 0).run P w = .ok (.string y.key) w := fun w => run_part_plain w ABa rfl
 have h5 : ∀ w, (part Ad #[.string y.key, .string y.val, .bool y.gone] 1).run P w = .ok (.string y.val) w := fun w => run_part_plain w ABa rfl
 have h6 : ∀ w, (part Jj #[.string y.key, .string y.val, .bool y.gone] 2).run P w = .ok (.bool y.gone) w := fun w => run_part_plain w AF7 rfl
 rw [Sem.run_bind, run_eqGuard_agg _ _ _ _ _ _ _ AKG, Result.andThen_ok, run_neq_struct, run_equalIn_agg _ _ _ _ _ AH6 AKE, Sr]
 simp only [Op.eqFields, Sem.run_bind, Sem.run_ite, h1, h2, h3, h4, h5, h6, Result.andThen_ok, run_equalIn_string _ _ _ _ _ Il, run_equalIn_bool' _ _ _ _ _ Ms]
 rw [e, toList_inj, toList_inj]
 by_cases k1 : x.key = y.key <;> by_cases k2 : x.val = y.val <;> by_cases k3 : x.gone = y.gone <;> simp [k1, k2, k3, Result.andThen]
def Au (x : Pr) : Int :=
 if (decide (x.key = ⟨#[]⟩) || (x.gone && !decide (x.val = ⟨#[]⟩))) then 1 else if (decide (x.key.size > 64) || decide (x.val.size > 8192)) then 2 else 0
theorem BR {a b : ByteArray} : sEq a b = decide (a = b) := toList_inj
def Yr (key : ByteArray) (l : List Pr) : List Pr := l.takeWhile fun q => sLt q.key key
def atK (key : ByteArray) (l : List Pr) : Nat := (Yr key l).length
def Br (key : ByteArray) (l : List Pr) : Bool := match l[atK key l]? with | some q => decide (q.key = key) | none => false
theorem Qx (key : ByteArray) (l : List Pr) : atK key l ≤ l.length := (List.takeWhile_sublist _).length_le
theorem Kb {α : Type} {p : α → Bool} : ∀ {l : List α} {i : Nat}, i ≤ (l.takeWhile p).length → (∀ x, l[i]? = some x → p x = true → i < (l.takeWhile p).length) ∧ (∀ x, l[i]? = some x → p x = false → i = (l.takeWhile p).length) ∧ (l[i]? = none → i = (l.takeWhile p).length)
 | [], i, h => by simp at h; subst h; simp
 | y :: l, 0, h => by
  refine ⟨fun x hx hp => ?_, fun x hx hp => ?_, fun h => by simp at h⟩
  ·simp at hx; subst hx; simp [hp]
  ·simp at hx; subst hx; simp [hp]
 | y :: l, i + 1, h => by
  rw [List.takeWhile_cons] at h ⊢
  split at h
  ·rename_i hy
   have ih := Kb (p := p) (l := l) (i := i) (by simpa using h)
   simp only [hy, if_true, List.length_cons]
   refine ⟨fun x hx hp => ?_, fun x hx hp => ?_, fun hn => ?_⟩
   ·have := ih.1 x (by simpa using hx) hp; omega
   ·have := ih.2.1 x (by simpa using hx) hp; omega
   ·have := ih.2.2 (by simpa using hn); omega
  ·simp at h
end Go.Lf.G.M

/-
 Contracts: the document's table; lists as sequences; sequences as lists.
-/
set_option maxRecDepth 100000
namespace Go.Lf.G.M
open Go Go.Lf Go.Lf.G
theorem G7 : Q5 P AP AO Af.w 40 = true := by kernel_rfl
theorem AHs : Q5 P Gg AP SlE.w 24 = true := by kernel_rfl
theorem AJg : Q5 P Ak BI AD4.w 8 = true := by kernel_rfl
def TE (x : Pr) (l : List Pr) : List Pr := l.take (atK x.key l) ++ [x] ++ l.drop (if Br x.key l then atK x.key l + 1 else atK x.key l)
def Df (x : Pr) (l : List Pr) : List Pr := if Au x ≠ 0 then l else TE x l
theorem AH1 {key : ByteArray} {l : List Pr} (h : Br key l = true) : atK key l < l.length := by
 unfold Br at h
 split at h
 ·rename_i hq; exact (List.getElem?_eq_some_iff.1 hq).1
 ·cases h
theorem AIn (x : Pr) (l : List Pr) : (TE x l).length ≤ l.length + 1 := by
 unfold TE
 have := Qx x.key l
 simp; split <;> omega
theorem AHO (x : Pr) (l : List Pr) : (Df x l).length ≤ l.length + 1 := by
 unfold Df; split
 ·omega
 ·exact AIn x l
theorem AKn {y : Value} {c : Value} : (#[] ++ #[y] ++ #[c] : Array Value) = #[y, c] := rfl
theorem ABN {A : Amb} {h h0 : Heap} {fv : Value} {S : Nat → Prop} {l : List Pr} {R : Value → Heap → Prop} (it : Cw A P fv S h0 l) (hS : ∀ b, S b → h[b]? = h0[b]?) (hl : l.length ≤ 1099511627776)
  (H : ∀ s h', Own Af AO h' s l → (∀ c, s.blk = some c → h.size ≤ c) → Ext h h' → R (.slice s.p s.len s.cap) h') : AA A P BU #[.slice none 0 0, fv] h R := by
 refine FH (s := ⟨none, 0, 0⟩) ?_
 unfold CE
 refine New.mk fun h1 _ hb hx hsz => ?_
 have hSlt : ∀ b, S b → b < h.size := fun b hb => by
  have := hS b hb
  rw [Array.getElem?_eq_getElem (it.1 b hb)] at this
  exact Am this
 have hmd : ∀ h' : Heap, Mod (fun c => c = h.size) h1 h' → Ext h h' := fun h' m => hx.then (m.weak fun c _ hc => .inr (by omega))
 refine RL it (fun b hb => (hx.get b (hSlt b hb) (by simp)).trans (hS b hb))
  (fun i c O hh => c = none ∧ ∃ s : Sl, hh[h.size]? = some (.cells #[.slice s.p s.len s.cap] AP (0, 0)) ∧ Own Af AO hh s (l.take i) ∧ (∀ b, O b ↔ (b = h.size ∨ s.blk = some b)) ∧ (∀ b, s.blk = some b → b < hh.size ∧ h.size < b))
  (fun b => b = h.size) (fun b hb e => by have := hSlt b hb; omega) ?_ ?_ ?_ ?_ ?_ ?_
 ·rintro i c O hh ⟨_, s, h2, o, hO, hlt⟩ b hb
  rcases (hO b).1 hb with rfl | h3
  ·exact Am h2
  ·exact (hlt b h3).1
 ·rintro i c O hh h' ⟨e, s, h2, o, hO, hlt⟩ m
  refine ⟨e, s, m.blk h2 (fun hn => hn.1 ((hO _).2 (.inl rfl))), o.mod m (fun c hc hn => hn.1 ((hO _).2 (.inr hc))), hO, fun b hb => ⟨?_, (hlt b hb).2⟩⟩
  have := m.size; have := (hlt b hb).1; omega
 ·exact ⟨rfl, ⟨none, 0, 0⟩, hb, Own.nil, fun b => by simp [Sl.blk], fun b hb => by simp [Sl.blk] at hb⟩
 ·rintro i x O1 hh rec kn' kj' hi ⟨_, s, h2, o, hO, hlt⟩ nO hsz1 hrec hst hkn hkj
  have hil := (List.getElem?_eq_some_iff.1 hi).1
  refine New.pair fun b1 h7 eb hb1 x7 hs7 => ?_
  refine ⟨rec, x7.blk hrec (by simp), hst, ?_⟩
  generalize hg : h7.setIfInBounds (h1.size + 1) (.loop { rec with state := .busy }) = h8
  have m8 : Mod (fun b => b = h1.size + 1) h7 h8 := hg ▸ Mod.setObj rfl
  have hl8 : h8[h1.size + 1]? = some (.loop { rec with state := .busy }) := by rw [← hg]; exact Di (by omega)
  have hlt1 := Am h2
  have hb8 := m8.blk hb1 (by omega)
  have h28 := m8.blk (x7.blk h2 (by simp)) (by omega)
  have o8 := (o.ext x7).mod m8 (fun c hc e => nO ((hO _).2 (.inr (e ▸ hc))))
  refine AQ.mk (AJ h28 rfl) (AC.mk (AJ hb8 rfl) (AC.mk (AB hb8 rfl) (AY.mk (AB hb8 rfl) ?_)))
  have hlen : (l.take i).length = i := by simp; omega
  refine New.append1 (E := Af) (x := x) rfl G7 o8 (by rw [hlen]; omega) (by rw [hlen]; simp [maxLen]; omega) fun s4 h9 o9 m9 bl9 _ => ?_
  have hs8 := m8.size
  have hbl : s.blk ≠ some h.size := fun e => by have := hlt _ e; omega
  refine Store.mk (m9.blk h28 hbl) (by simp) fun h10 hb10 m10 hs10 => hkn h10 ?_
  refine ⟨fun b => b = h.size ∨ s4.blk = some b, ?_, ?_, ?_, rfl, s4, by simpa using hb10, ?_, fun _ => Iff.rfl, ?_⟩
  ·rintro b (rfl | hb)
   ·exact .inl ((hO _).2 (.inl rfl))
   ·rcases bl9 b hb with h3 | h3
    ·exact .inl ((hO _).2 (.inr h3))
    ·exact .inr (by omega)
  ·have e1 : Mod (fun b => O1 b ∨ b = h1.size + 1) hh h8 := x7.mod.trans (m8.weak fun b _ hb => .inr hb)
   have e2 : Mod (fun b => O1 b ∨ b = h1.size + 1) hh h9 := e1.trans (m9.weak fun b _ hb => .inl ((hO _).2 (.inr hb)))
   exact e2.trans (m10.weak fun b _ hb => .inl ((hO _).2 (.inl hb)))
  ·refine m10.blk (m9.blk hl8 (fun e => nO ((hO _).2 (.inr e)))) (by omega)
  ·have o10 := o9.mod m10 (fun c hc e => by
    rcases bl9 c hc with h3 | h3
    ·have := hlt _ h3; omega
    ·omega)
   rw [List.take_add_one, hi]
   exact o10
  ·intro b hb
   have := m9.size
   have hbs : b < h9.size := by
    rcases o9.row with ⟨rfl, _⟩ | ⟨g, cur, hp, hgg, _⟩
    ·simp [Sl.blk] at hb
    ·simp [Sl.blk, hp] at hb; subst hb; exact Am hgg
   refine ⟨by omega, ?_⟩
   rcases bl9 b hb with h3 | h3
   ·exact (hlt _ h3).2
   ·omega
 ·rintro O' h' ⟨_, s, h2, o, hO, hlt⟩ md _ hsub hdf
  have hsz' := md.size
  refine AQ.mk (AJ h2 rfl) ⟨hdf, ?_⟩
  rw [List.take_length] at o
  have hne : s.blk ≠ some h1.size := fun e => by
   rcases o.row with ⟨rfl, _⟩ | ⟨g, cur, hp, hgg, _⟩
   ·simp [Sl.blk] at e
   ·simp [Sl.blk, hp] at e; rw [e, hdf] at hgg; cases hgg
  refine H s _ (o.mod (Mod.setObj (S := fun c => c = h1.size) rfl) fun c hc e => hne (e ▸ hc)) (fun c hc => by have := hlt _ hc; omega) ?_
  exact (hmd h' md).then (Mod.setObj (.inr (by omega)))
 ·rintro i j O' h' ⟨e, _⟩
  cases e
theorem Ql {A : Amb} {h h0 : Heap} {fv : Value} {S : Nat → Prop} {l : List Pr} {R : Value → Heap → Prop} (it : Cw A P fv S h0 l) (hS : ∀ b, S b → h[b]? = h0[b]?) (hl : l.length ≤ 1099511627776)
  (H : ∀ s h', Own Af AO h' s l → (∀ c, s.blk = some c → h.size ≤ c) → Ext h h' → R (.slice s.p s.len s.cap) h') : AA A P Be #[fv] h R := by
 refine JM ?_
 unfold Dq
 exact ABN it hS hl fun s h' o hb hx => ⟨s, rfl, H s h' o hb hx⟩
end Go.Lf.G.M

