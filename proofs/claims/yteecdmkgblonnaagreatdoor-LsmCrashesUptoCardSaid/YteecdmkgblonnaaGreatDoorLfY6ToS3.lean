/-
 Contract: a table is built.
-/
import Derived.Test.YteecdmkgblonnaaGreatDoorLfY3ToY5
import Derived.Shelf.SlGeneric
import Derived.Shelf.SlIter.Nil
import Derived.Shelf.SlIter.Sorted
import Derived.Shelf.SortM.Plain
import Derived.Shelf.SortM.SortNone
import Derived.Test.YteecdmkgblonnaaGreatDoorProg
import Derived.Test.YteecdmkgblonnaaGreatDoorLfB1ToU14
import Derived.Test.YteecdmkgblonnaaGreatDoorLfU2ToV2
set_option linter.unusedVariables false
set_option linter.unusedSimpArgs false
set_option maxRecDepth 100000
set_option linter.unusedVariables false
set_option linter.unusedSimpArgs false
namespace Go.Lf.G
open Go
def keysL (l : List Pr) : List ByteArray := l.map (·.key)
def fltN (l : List Pr) : Nat := min (l.length + 8) 8192
def fltL (l : List Pr) : List UInt8 := makeF (keysL l) (fltN l)
def tabL (l : List Pr) : List UInt8 := wraps (framesT l (fltL l))
def textsL (ks : List ByteArray) : List UInt8 := ks.flatMap fun k => textL (bl k)
/-- pairs of which a table may be -/
structure TabOk (l : List Pr) : Prop where
 ne : l ≠ []
 ok : ∀ p ∈ l, PrOk p
 inc : l.Pairwise fun p q => sLt p.key q.key = true
 many : l.length ≤ 100000
theorem TabOk.tabS {l : List Pr} (T : TabOk l) : TabS (tabL l) l (fltL l) := by
 have h1 : 1 ≤ fltN l ∧ fltN l ≤ 8192 := by unfold fltN; omega
 refine ⟨rfl, T.ne, T.ok, T.inc, ?_, fun p hp => has_make h1.1 h1.2 (List.mem_map_of_mem hp), T.many⟩
 unfold fltL
 rw [make_len h1.1]
 exact h1
theorem wraps_len : ∀ {rs : List (List UInt8)}, (∀ r ∈ rs, r.length ≤ 1048576) → (wraps rs).length ≤ rs.length * 1048590
 | [], _ => by simp
 | r :: rs, h => by
  have h1 := (wrapL_len (h r List.mem_cons_self)).2
  have h2 := h r List.mem_cons_self
  have h3 := wraps_len (rs := rs) fun x hx => h x (List.mem_cons_of_mem _ hx)
  simp only [wraps, List.flatMap_cons, List.length_append, List.length_cons] at h3 ⊢
  omega
theorem texts_len : ∀ {ks : List ByteArray}, (∀ k ∈ ks, k.size ≤ 64) → (textsL ks).length ≤ ks.length * 74
 | [], _ => by simp [textsL]
 | k :: ks, h => by
  have h2 := h k List.mem_cons_self
  have h1 := putV_len10 (n := (bl k).length) (by rw [bl_size]; omega)
  have h3 := texts_len (ks := ks) fun x hx => h x (List.mem_cons_of_mem _ hx)
  have h4 := bl_size k
  simp only [textsL, List.flatMap_cons, List.length_append, List.length_cons, textL] at h3 ⊢
  omega
theorem firsts_key {l : List Pr} (ho : ∀ p ∈ l, PrOk p) : ∀ k ∈ firstsT l, k.size ≤ 64 := fun k hk => by
 obtain ⟨i, _, rfl⟩ := List.mem_map.1 hk
 unfold keyAt
 split
 ·rename_i p hp
  exact (ho p (List.mem_of_getElem? hp)).keyMost
 ·exact Nat.zero_le _
theorem blk_pairs {l : List Pr} (ho : ∀ p ∈ l, PrOk p) {i : Nat} (hi : i < nblk l) : (pairsL (blkT l i)).length ≤ 8 * 8276 := by
 have h1 := pairs_most (l := blkT l i) fun p hp => ho p (blk_mem hp)
 have h2 := (blkT_len hi).2.1
 have : (blkT l i).length * 8276 ≤ 8 * 8276 := Nat.mul_le_mul_right _ h2
 omega
theorem blks_pairs {l : List Pr} (ho : ∀ p ∈ l, PrOk p) : ∀ r ∈ (blks l).map pairsL, r.length ≤ 1048576 := fun r hr => by
 obtain ⟨b, hb, rfl⟩ := List.mem_map.1 hr
 obtain ⟨i, hi, rfl⟩ := List.mem_map.1 hb
 have := blk_pairs ho (List.mem_range.1 hi)
 omega
theorem blks_get {l : List Pr} {i : Nat} (hi : i < nblk l) : ((blks l).map pairsL)[i]? = some (pairsL (blkT l i)) := by simp [blks, hi]
theorem firsts_get {l : List Pr} {i : Nat} (hi : i < nblk l) : (firstsT l)[i]? = some (keyAt l (8 * i)) := by simp [firstsT, hi]
theorem take_get {α : Type} {l : List α} {i : Nat} {x : α} (h : l[i]? = some x) : l.take (i + 1) = l.take i ++ [x] := by rw [List.take_add_one, h]; rfl
theorem keysL_app (a b : List Pr) : keysL (a ++ b) = keysL a ++ keysL b := by simp [keysL]
theorem lt_of_inc {l : List Pr} (h : l.Pairwise fun p q => sLt p.key q.key = true) {i : Nat} {p q : Pr} (hp : l[i]? = some p) (hq : l[i + 1]? = some q) : sLt p.key q.key = true := by
 obtain ⟨h1, rfl⟩ := List.getElem?_eq_some_iff.1 hp
 obtain ⟨h2, rfl⟩ := List.getElem?_eq_some_iff.1 hq
 exact List.pairwise_iff_getElem.1 h _ _ h1 h2 (by omega)
theorem min_filter (n : Nat) (h : n ≤ 100000) : (if (8192 : Int) < (IntKind.wrap .i64 (((n : Nat) : Int) + (8 : Int))) then (8192 : Int) else (IntKind.wrap .i64 (((n : Nat) : Int) + (8 : Int)))) = ((min (n + 8) 8192 : Nat) : Int) := by
 rw [wrap_i64 (by omega) (by omega)]
 split <;> omega
theorem Build_ok {A : Amb} {h : Heap} {s : Sl} {l : List Pr} {R : Value → Heap → Prop} (T : TabOk l) (hv : View PairE h s l) (hb : ∀ b, s.blk = some b → b < h.size)
  (H : ∀ h', Ext h h' → R (.tuple #[.string (strL (tabL l)), .int .i64 0]) h') : HCalls A P f_table_Build #[.slice s.p s.len s.cap] h R := by
 refine ok_table_Build ?_
 unfold F_table_Build
 have hpos := List.length_pos_iff.2 T.ne
 have hmany := T.many
 refine PIf.no (by rw [hv.len]; simp; exact T.ne) ?_
 refine Loop.rule (fun m x hh => ∃ i : Nat, x = (⟨#[]⟩, 0, (i : Int), ()) ∧ m = l.length - i ∧ i ≤ l.length ∧ Ext h hh) ?_ ⟨0, rfl, rfl, by omega, Mod.refl⟩
 rintro K m _ g ⟨i, rfl, rfl, hi, xg⟩ hK
 dsimp only
 have hvg := hv.ext xg
 refine PIf.intro (fun hq => ?_) (fun hq => ?_)
 ·have hil : i < l.length := by rw [hv.len] at hq; simp at hq; omega
  have hx : l[i]? = some l[i] := List.getElem?_eq_getElem hil
  have hox := T.ok _ (List.getElem_mem hil)
  generalize l[i] = x at hx hox
  have hkm := hox.keyMost
  have hvm := hox.valMost
  refine hvg.idx hx fun a ha hc => ?_
  obtain ⟨c0, c1, c2⟩ := hc.pair
  rw [Int.toNat_natCast]
  refine LoadS.mk c0 (LoadS.mk c1 (LoadB.mk c2 ?_))
  refine New.pair fun b h5 hbe hb5 x5 hs5 => ?_
  refine Join.mk fun K1 hK1 => ?_
  refine LoadS.mk (hget_lit hb5 rfl) (PIf.no (key_ne hox.key) ?_)
  have last : K1 (false, ()) h5 := by
   refine hK1 _ _ (PIf.no rfl ?_)
   refine Join.mk fun K2 hK2 => ?_
   refine LoadS.mk (hget_lit hb5 rfl) (PIf.no (by simp; omega) ?_)
   refine LoadS.mk (hget_lit1 hb5 rfl) ?_
   refine hK2 _ _ (PIf.no (by simp; omega) ?_)
   rw [wrap_succ (by omega)]
   exact hK (l.length - (i + 1)) _ _ (by omega) ⟨i + 1, rfl, rfl, hil, xg.trans x5⟩
  have prev : PIf (decide (((i : Nat) : Int) > (0 : Int))) (LoadS h5 (⟨b, 0, none⟩ : Addr) fun t49 =>
     Idx s.p s.len (IntKind.wrap .i64 (((i : Nat) : Int) - (1 : Int))) fun a1 =>
     LoadS h5 (a1.add ((IntKind.wrap .i64 (((i : Nat) : Int) - (1 : Int))).toNat * 3)) fun t55 =>
     K1 ((sLt t49 t55 || sEq t49 t55), ()) h5) (K1 (false, ()) h5) := by
   refine PIf.intro (fun hq1 => ?_) (fun _ => last)
   have hi0 : 0 < i := by simp at hq1; omega
   obtain ⟨k, rfl⟩ : ∃ k, i = k + 1 := ⟨i - 1, by omega⟩
   have ew : IntKind.wrap .i64 (((k + 1 : Nat) : Int) - (1 : Int)) = (k : Int) := by rw [wrap_i64 (by omega) (by omega)]; omega
   have hk : l[k]? = some l[k] := List.getElem?_eq_getElem (by omega)
   refine LoadS.mk (hget_lit hb5 rfl) ?_
   rw [ew]
   refine (hvg.ext x5).idx hk fun a1 ha1 hc1 => ?_
   rw [Int.toNat_natCast]
   refine LoadS.mk hc1.pair.1 ?_
   have hlt := lt_of_inc T.inc hk hx
   have e : (sLt x.key l[k].key || sEq x.key l[k].key) = false := by
    rw [Bool.or_eq_false_iff]
    refine ⟨?_, ?_⟩
    ·cases hs : sLt x.key l[k].key with
     | false => rfl
     | true => have := sLt_trans hlt hs; rw [sLt_irrefl] at this; cases this
    ·rw [sEq_iff, decide_eq_false_iff_not]
     intro e
     rw [e, sLt_irrefl] at hlt; cases hlt
   rw [e]
   exact last
  refine LoadB.mk (hget_lit1 hb5 rfl) (PIf.intro (fun hg => ?_) (fun _ => prev))
  refine LoadS.mk (hget_lit1 hb5 rfl) (PIf.no ?_ prev)
  rw [sEq_nil, empty_bl (hox.gone hg)]
  rfl
 ·clear hK
  have hsl := hv.len
  refine New.mk fun h8 _ hb8 x8 hs8 => ?_
  refine New.mk fun h9 _ hb9 x9 hs9 => ?_
  refine New.mk fun h10 _ hb10 x10 hs10 => ?_
  refine Store.mk hb10 (by simp) fun h11 hb11 m11 hs11 => ?_
  refine New.mk fun h12 _ hb12 x12 hs12 => ?_
  refine Store.mk hb12 (by simp) fun h13 hb13 m13 hs13 => ?_
  have z8 : h8.size = g.size + 1 := hs8
  have z9 : h9.size = g.size + 2 := by omega
  have z11 : h11.size = g.size + 3 := by omega
  have z13 : h13.size = g.size + 4 := by omega
  rw [z8] at hb9
  rw [z9] at hb10 m11 hb11
  rw [z11] at hb12 m13 hb13
  rw [z8, z9, z11]
  refine Chunk_ok hv.cap (by omega) fun fv h14 x14 hs14 hc0 hc1 it => ⟨_, rfl, ?_⟩
  rw [z13] at hs14 hc0 hc1 it
  generalize hBd : g.size = B at *
  have hEd : ∃ E : Nat → Obj → Prop, E = fun c o => (c = B + 4 ∧ o = .cells #[.slice s.p s.len s.cap] t_sl_api_Pair (0, 0)) ∨ (c = B + 5 ∧ o = .cells #[.int .i64 8] t_int (0, 0)) := ⟨_, rfl⟩
  obtain ⟨E, hE⟩ := hEd
  have xx : Ext g h14 := by
   refine ⟨by have := x14.size; omega, fun c hc _ => ?_⟩
   rw [hBd] at hc
   exact (x14.get c (by omega) (fun h => h)).trans ((m13.get c (by omega) (by omega)).trans ((x12.get c (by omega) (fun h => h)).trans ((m11.get c (by omega) (by omega)).trans ((x10.get c (by omega) (fun h => h)).trans ((x9.get c (by omega) (fun h => h)).trans (x8.get c (by omega) (fun h => h)))))))
  have k8 : h14[B]? = some (.cells #[.pointer none, .slice none 0 0] t_strings_Builder (0, 0)) :=
   x14.blk (m13.blk (x12.blk (m11.blk (x10.blk (x9.blk hb8 (fun h => h)) (fun h => h)) (by omega)) (fun h => h)) (by omega)) (fun h => h)
  have k9 : h14[B + 1]? = some (.cells #[.slice none 0 0] t_sl_string (0, 0)) :=
   x14.blk (m13.blk (x12.blk (m11.blk (x10.blk hb9 (fun h => h)) (by omega)) (fun h => h)) (by omega)) (fun h => h)
  have k10 : h14[B + 2]? = some (.cells #[.string (strL [])] t_string (0, 0)) := by
   have hb11' : h11[B + 2]? = some (.cells #[.string (strL [])] t_string (0, 0)) := by rw [strL_nil]; simpa using hb11
   exact x14.blk (m13.blk (x12.blk hb11' (fun h => h)) (by omega)) (fun h => h)
  have k12 : h14[B + 3]? = some (.cells #[.int .i64 ((0 : Nat) : Int)] t_int (0, 0)) := by
   have hb13' : h13[B + 3]? = some (.cells #[.int .i64 ((0 : Nat) : Int)] t_int (0, 0)) := by simpa using hb13
   exact x14.blk hb13' (fun h => h)
  have bs0 : BS g B E [] [] [] 0 h14 := by
   refine ⟨bld_new k8 (Nat.le_refl _), ⟨⟨none, 0, 0⟩, k9, Own.nil, fun c hc => by simp [Sl.blk] at hc⟩, k10, k12, fun c o hc => ?_, xx.mod⟩
   subst hE
   rcases hc with ⟨rfl, rfl⟩ | ⟨rfl, rfl⟩
   ·exact hc0
   ·exact hc1
  have okE : EOk B E := by
   subst hE
   refine ⟨fun c o hc cs fz => ?_, fun c o hc cs fz => ?_, fun c o hc => ?_⟩
   ·rcases hc with ⟨rfl, rfl⟩ | ⟨rfl, rfl⟩ <;> exact cells_ne (by decide) _ _
   ·rcases hc with ⟨rfl, rfl⟩ | ⟨rfl, rfl⟩ <;> exact cells_ne (by decide) _ _
   ·rcases hc with ⟨rfl, rfl⟩ | ⟨rfl, rfl⟩ <;> omega
  have notE : ∀ d o, B + 6 ≤ d → ¬ E d o := by
   subst hE
   rintro d o hd (⟨rfl, _⟩ | ⟨rfl, _⟩) <;> omega
  have hnb : (chunks s).length = nblk l := by rw [chunks_len, hsl]; rfl
  have hnb2 : nblk l ≤ 12501 := by unfold nblk; omega
  have hsz14 : h14.size = B + 6 := by omega
  have hbB : ∀ b, s.blk = some b → b < B := fun b hbb => by have := hb b hbb; have := xg.size; omega
  refine rangeJ it (fun i hh => BS g B E (wraps (((blks l).map pairsL).take i)) (keysL (l.take (8 * i))) (textsL ((firstsT l).take i)) i hh) ?_ ?_ ?_ ?_ ?_
  ·intro i hh hI c hc
   subst hE
   rcases hc with rfl | rfl
   ·exact (hI.fix _ _ (.inl ⟨rfl, rfl⟩)).trans hc0.symm
   ·exact (hI.fix _ _ (.inr ⟨rfl, rfl⟩)).trans hc1.symm
  ·rintro i hh o hI hdf ⟨o', ho'⟩
   exact hI.lp (by omega) (fun o => notE _ _ (by omega)) ho' o
  ·intro rec
   exact bs0.ext ((Mod.push h14 _).trans (Mod.push _ _))
  ·intro i x hh rec kn' kj' hx hI hdf hlp hst hkn
   have hin : i < nblk l := by have := (List.getElem?_eq_some_iff.1 hx).1; omega
   have hxe : x = chunkS s i := by
    have := chunks_get (s := s) (i := i) (by rw [hsl]; exact hin)
    rw [this] at hx
    exact (Option.some.inj hx).symm
   subst hxe
   rw [hsz14] at hdf hlp ⊢
   refine ⟨rec, hlp, hst, ?_⟩
   obtain ⟨E', hE'⟩ : ∃ E' : Nat → Obj → Prop, E' = fun c o => E c o ∨ (c = B + 6 ∧ o = .deferred (some [])) ∨ (c = B + 6 + 1 ∧ o = .loop { rec with state := .busy }) := ⟨_, rfl⟩
   have okE' : EOk B E' := by
    subst hE'
    refine ⟨fun c o hc cs fz => ?_, fun c o hc cs fz => ?_, fun c o hc => ?_⟩
    ·rcases hc with h | ⟨rfl, rfl⟩ | ⟨rfl, rfl⟩
     ·exact okE.u8 c o h cs fz
     ·intro e; cases e
     ·intro e; cases e
    ·rcases hc with h | ⟨rfl, rfl⟩ | ⟨rfl, rfl⟩
     ·exact okE.str c o h cs fz
     ·intro e; cases e
     ·intro e; cases e
    ·rcases hc with h | ⟨rfl, rfl⟩ | ⟨rfl, rfl⟩
     ·exact okE.lt c o h
     ·omega
     ·omega
   have hI1 := hI.lp (d := B + 6 + 1) (by omega) (fun o => notE _ _ (by omega)) hlp { rec with state := .busy }
   have hI2 : BS g B E' (wraps (((blks l).map pairsL).take i)) (keysL (l.take (8 * i))) (textsL ((firstsT l).take i)) i (hh.setIfInBounds (B + 6 + 1) (.loop { rec with state := .busy })) := by
    refine ⟨hI1.bld, hI1.keys, hI1.ix, hI1.cnt, fun c o hc => ?_, hI1.old⟩
    subst hE'
    rcases hc with h | ⟨rfl, rfl⟩ | ⟨rfl, rfl⟩
    ·exact hI1.fix c o h
    ·rw [Array.getElem?_setIfInBounds_ne (by omega)]; exact hdf
    ·exact setObj_self (blk_lt hlp)
   generalize hh.setIfInBounds (B + 6 + 1) (.loop { rec with state := .busy }) = g0 at hI2
   have hbl := blkT_len hin
   have hob : ∀ p ∈ blkT l i, PrOk p := fun p hp => T.ok p (blk_mem hp)
   have vch : ∀ {hh : Heap} {out : List UInt8} {kl : List ByteArray} {ix : List UInt8} {n : Nat}, BS g B E' out kl ix n hh → View PairE hh (chunkS s i) (blkT l i) := fun b =>
    View.chunk (hvg.mod b.old (fun c hc => by have := hbB c hc; omega)) hin
   have hcl : (chunkS s i).len = (blkT l i).length := (vch hI2).len
   have houtl := wraps_len (rs := ((blks l).map pairsL).take i) fun r hr => blks_pairs T.ok r (List.mem_of_mem_take hr)
   have hixl := texts_len (ks := (firstsT l).take i) fun k hk => firsts_key T.ok k (List.mem_of_mem_take hk)
   rw [List.length_take] at houtl hixl
   have hbp := blk_pairs T.ok hin
   refine Loop.rule (fun m x hh => ∃ j : Nat, x = (strL (pairsL ((blkT l i).take j)), (j : Int), ()) ∧ m = (blkT l i).length - j ∧ j ≤ (blkT l i).length ∧
    BS g B E' (wraps (((blks l).map pairsL).take i)) (keysL (l.take (8 * i)) ++ keysL ((blkT l i).take j)) (textsL ((firstsT l).take i)) i hh) ?_ ⟨0, rfl, rfl, by omega, by simpa [keysL] using hI2⟩
   rintro K3 m _ h17 ⟨j, rfl, rfl, hj, bs⟩ hK3
   dsimp only [argS]
   refine PIf.intro (fun hq => ?_) (fun hq => ?_)
   ·have hjl : j < (blkT l i).length := by have hq : ((j : Nat) : Int) < (((chunkS s i).len : Nat) : Int) := of_decide_eq_true hq; omega
    have hx : (blkT l i)[j]? = some (blkT l i)[j] := List.getElem?_eq_getElem hjl
    have hox := hob _ (List.getElem_mem hjl)
    generalize (blkT l i)[j] = p at hx hox
    have htk := take_get hx
    refine (vch bs).idx hx fun a ha hc => ?_
    obtain ⟨c0, c1, c2⟩ := hc.pair
    rw [Int.toNat_natCast]
    refine LoadS.mk c0 (LoadS.mk c1 (LoadB.mk c2 ?_))
    refine New.pair fun b5 h21 hbe hb5 x21 hs21 => ?_
    have bs1 := bs.ext x21
    obtain ⟨ks, e1, e2, e3⟩ := bs1.keys
    refine LoadL.mk (s := ks) (hget_lit e1 rfl) ?_
    refine LoadS.mk (hget_lit hb5 rfl) ?_
    have hb5B : B + 3 < b5 := by have := blk_lt bs.cnt; omega
    have hkl : (keysL (l.take (8 * i)) ++ keysL ((blkT l i).take j)).length ≤ 100010 := by
     rw [List.length_append]; simp only [keysL, List.length_map, List.length_take]; omega
    refine New.append1 (E := StrE) (x := p.key) rfl app_strs e2 (by omega) (by simp only [maxLen]; omega) fun s' h23 o23 m23 hn23 hp23 => ?_
    have e1' : h23[B + 1]? = some (.cells #[.slice ks.p ks.len ks.cap] t_sl_string (0, 0)) := m23.blk e1 (fun h => by have := e3 _ h; omega)
    refine Store.mk e1' (by simp) fun h24 hb24 m24 hs24 => ?_
    have e3' : ∀ c, s'.blk = some c → B + 3 < c := fun c hc => by
     rcases hn23 c hc with h | h
     ·exact e3 c h
     ·have := blk_lt bs1.cnt; omega
    have bs2 : BS g B E' _ (keysL (l.take (8 * i)) ++ keysL ((blkT l i).take j) ++ [p.key]) _ i h24 :=
     bs1.key okE' (ks' := s') e1 e2 e3 ((m23.weak fun c _ hc => .inl hc).trans (m24.weak fun c _ hc => .inr hc)) (by simpa using hb24) (o23.mod m24 (fun c hc h => by have := e3' c hc; omega)) e3'
    have k5 : h24[b5]? = some (.cells #[.string p.key, .string p.val, .bool p.gone] t_api_Pair (0, 0)) := m24.blk (m23.blk hb5 (fun h => e2.ne hb5 (by decide) h)) (by omega)
    refine LoadS.mk (hget_lit k5 rfl) (LoadS.mk (hget_lit1 k5 rfl) (LoadB.mk (hget_lit1 k5 rfl) ?_))
    refine tPair_ok (x := p) hox fun h25 x25 => ⟨_, rfl, ?_⟩
    have hpl : pairsL ((blkT l i).take (j + 1)) = pairsL ((blkT l i).take j) ++ pairL p := by rw [htk]; simp [pairsL]
    have lt := pairs_most (l := (blkT l i).take j) fun q hq => hob q (List.mem_of_mem_take hq)
    rw [List.length_take] at lt
    have lp := (pairL_len hox).2
    have hkm := hox.keyMost
    have hvm := hox.valMost
    refine ⟨by rw [strL_size, strL_size, max_i64]; omega, ?_⟩
    rw [strL_app, ← hpl, wrap_succ (by omega)]
    refine hK3 ((blkT l i).length - (j + 1)) _ _ (by omega) ⟨j + 1, rfl, rfl, hjl, ?_⟩
    have bs3 := bs2.ext x25
    have : keysL ((blkT l i).take (j + 1)) = keysL ((blkT l i).take j) ++ [p.key] := by rw [htk, keysL_app]; rfl
    rw [this, ← List.append_assoc]
    exact bs3
   ·have hjl : j = (blkT l i).length := by have hq : ¬ ((j : Nat) : Int) < (((chunkS s i).len : Nat) : Int) := of_decide_eq_false hq; omega
    have et : (blkT l i).take j = blkT l i := by rw [hjl]; simp
    rw [et] at bs ⊢
    refine fWrap_ok (by omega) (fun h => by omega) fun hlen h26 x26 => ⟨_, _, rfl, ?_⟩
    have bs1 := bs.ext x26
    have hwl := wrapL_len hlen
    refine WriteString_ok bs1.bld (by have := blk_lt bs1.cnt; omega) (by rw [strL_size]; omega) fun h27 b27 m27 => ⟨_, _, rfl, ?_⟩
    have bs2 := bs1.write okE' b27 m27
    rw [bl_strL] at bs2
    refine LoadS.mk (hget_lit bs2.ix rfl) ?_
    have h0 : (blkT l i)[0]? = some (blkT l i)[0] := List.getElem?_eq_getElem (by omega)
    have hk0 : keyAt l (8 * i) = (blkT l i)[0].key := by
     have := blkT_get (l := l) (i := i) (j := 0) (by omega)
     rw [h0] at this
     unfold keyAt
     rw [Nat.add_zero] at this
     rw [← this]
    have hox0 := hob _ (List.getElem_mem (show 0 < (blkT l i).length by omega))
    generalize (blkT l i)[0] = p0 at h0 hk0 hox0
    obtain ⟨a4, ha4, hc4⟩ := (vch bs2).cells 0 p0 h0
    refine Idx.mk (k := 0) ha4 (by rw [hcl]; omega) ?_
    rw [Nat.zero_mul, add_zero] at hc4
    refine LoadS.mk (n := p0.key) (by show hget h27 (a4.add 0) = _; rw [add_zero]; exact hc4.pair.1) ?_
    have hkm := hox0.keyMost
    refine vText_okS (by omega) fun h28 x28 => ⟨_, rfl, ?_⟩
    have bs3 := bs2.ext x28
    refine ⟨hget_lit bs3.ix rfl, ?_⟩
    have l10 := putV_len10 (n := (bl p0.key).length) (by rw [bl_size]; omega)
    have lk := bl_size p0.key
    refine ⟨by rw [strL_size, strL_size, max_i64]; simp only [textL, List.length_append]; omega, ?_⟩
    rw [strL_app]
    refine Store.mk bs3.ix (by simp) fun h29 hb29 m29 hs29 => ?_
    have bs4 := bs3.ixs okE' (ix' := textsL ((firstsT l).take i) ++ textL (bl p0.key)) m29 (by simpa using hb29)
    refine LoadI.mk (hget_lit bs4.cnt rfl) ?_
    rw [wrap_succ (by omega)]
    refine Store.mk bs4.cnt (by simp) fun h30 hb30 m30 hs30 => ?_
    have bs5 := bs4.cnts okE' (n' := i + 1) m30 (by simpa using hb30)
    have ew : wraps (((blks l).map pairsL).take (i + 1)) = wraps (((blks l).map pairsL).take i) ++ wrapL (pairsL (blkT l i)) := by
     rw [take_get (blks_get hin)]; simp [wraps]
    have ek : keysL (l.take (8 * (i + 1))) = keysL (l.take (8 * i)) ++ keysL (blkT l i) := by rw [← keysL_app, take_blk]
    have ef : textsL ((firstsT l).take (i + 1)) = textsL ((firstsT l).take i) ++ textL (bl p0.key) := by
     rw [take_get (firsts_get hin), hk0]; simp [textsL]
    subst hE'
    refine hkn h30 ?_ ?_ ?_
    ·rw [ew, ek, ef]
     exact ⟨bs5.bld, bs5.keys, bs5.ix, bs5.cnt, fun c o hc => bs5.fix c o (.inl hc), bs5.old⟩
    ·rw [hsz14]; exact bs5.fix _ _ (.inr (.inl ⟨rfl, rfl⟩))
    ·rw [hsz14]; exact bs5.fix _ _ (.inr (.inr ⟨rfl, rfl⟩))
  ·intro h31 hI hdf
   rw [hnb] at hI
   have e1 : ((blks l).map pairsL).take (nblk l) = (blks l).map pairsL := List.take_of_length_le (by simp [blks_len])
   have e2 : l.take (8 * nblk l) = l := List.take_of_length_le (by unfold nblk; omega)
   have e3 : (firstsT l).take (nblk l) = firstsT l := List.take_of_length_le (by simp [firsts_len])
   rw [e1, e2, e3] at hI
   rw [hsz14] at hdf ⊢
   obtain ⟨E', hE'⟩ : ∃ E' : Nat → Obj → Prop, E' = fun c o => E c o ∨ (c = B + 6 ∧ o = .deferred (some [])) := ⟨_, rfl⟩
   have okE' : EOk B E' := by
    subst hE'
    refine ⟨fun c o hc cs fz => ?_, fun c o hc cs fz => ?_, fun c o hc => ?_⟩
    ·rcases hc with h | ⟨rfl, rfl⟩
     ·exact okE.u8 c o h cs fz
     ·intro e; cases e
    ·rcases hc with h | ⟨rfl, rfl⟩
     ·exact okE.str c o h cs fz
     ·intro e; cases e
    ·rcases hc with h | ⟨rfl, rfl⟩
     ·exact okE.lt c o h
     ·omega
   have bs : BS g B E' (wraps ((blks l).map pairsL)) (keysL l) (textsL (firstsT l)) (nblk l) h31 := by
    refine ⟨hI.bld, hI.keys, hI.ix, hI.cnt, fun c o hc => ?_, hI.old⟩
    subst hE'
    rcases hc with h | ⟨rfl, rfl⟩
    ·exact hI.fix c o h
    ·exact hdf
   obtain ⟨ks, k1, k2, k3⟩ := bs.keys
   refine LoadL.mk (s := ks) (hget_lit k1 rfl) (LoadL.mk (s := ks) (hget_lit k1 rfl) ?_)
   have hkl : ks.len = l.length := by rw [k2.len]; simp [keysL]
   have hfn : 1 ≤ fltN l ∧ fltN l ≤ 8192 := by unfold fltN; omega
   have tS := T.tabS
   have hfl := tS.flen
   rw [hkl, min_filter _ T.many]
   rw [show ((min (l.length + 8) 8192 : Nat) : Int) = ((fltN l : Nat) : Int) from rfl, ← hkl]
   refine Make_ok (ks := keysL l) k2.view (fun k hk => ?_) hfn.1 hfn.2 (by simp [keysL]; omega) (fun b hb => k2.lt hb) fun h33 x33 => ⟨_, _, rfl, ?_⟩
   ·obtain ⟨p, hp, rfl⟩ := List.mem_map.1 hk
    have := (T.ok p hp).keyMost; omega
   have bs1 := bs.ext x33
   refine LoadI.mk (hget_lit bs1.cnt rfl) ?_
   rw [wrap_u64n (by omega)]
   refine vPut_ok (by omega) fun h34 x34 => ⟨_, rfl, ?_⟩
   have bs2 := bs1.ext x34
   refine LoadS.mk (hget_lit bs2.ix rfl) ⟨hget_lit bs1.ix rfl, ?_⟩
   have l1 := putV_len10 (n := nblk l) (by omega)
   have hixl := texts_len (ks := firstsT l) (firsts_key T.ok)
   rw [firsts_len] at hixl
   refine ⟨by rw [strL_size, strL_size, max_i64]; omega, ?_⟩
   rw [hsl, wrap_u64n (by omega)]
   refine vPut_ok (by omega) fun h35 x35 => ⟨_, rfl, ?_⟩
   have bs3 := bs2.ext x35
   have l2 := putV_len10 (n := l.length) (by omega)
   refine ⟨hget_lit bs3.ix rfl, ?_⟩
   rw [strL_app]
   refine ⟨by rw [strL_size, strL_size, max_i64]; simp only [List.length_append]; omega, ?_⟩
   refine vText_ok (l := fltL l) (by omega) fun h36 x36 => ⟨_, rfl, ?_⟩
   have bs4 := bs3.ext x36
   have l3 := putV_len10 (n := (fltL l).length) (by omega)
   refine ⟨hget_lit bs4.ix rfl, ?_⟩
   rw [strL_app, strL_app]
   have ltx : (textL (fltL l)).length = (putV (fltL l).length).length + (fltL l).length := by simp [textL]
   refine ⟨by rw [strL_size, strL_size, max_i64]; simp only [List.length_append]; omega, ?_⟩
   have efoot : putV (nblk l) ++ textsL (firstsT l) ++ putV l.length ++ textL (fltL l) = footT l (fltL l) := by
    unfold footT textsL; simp only [List.append_assoc]
   rw [efoot]
   have hft := foot_len tS
   refine fWrap_ok (by omega) (fun h => by omega) fun hlen h37 x37 => ⟨_, _, rfl, PIf.no rfl ?_⟩
   have bs5 := bs4.ext x37
   have houtl := wraps_len (rs := (blks l).map pairsL) (blks_pairs T.ok)
   rw [List.length_map, blks_len] at houtl
   have hwl := wrapL_len hlen
   refine WriteString_ok bs5.bld (by have := blk_lt bs5.cnt; omega) (by rw [strL_size]; omega) fun h38 b38 m38 => ⟨_, _, rfl, ?_⟩
   have bs6 := bs5.write okE' b38 m38
   rw [bl_strL] at bs6
   refine BString_ok bs6.bld (by have := blk_lt bs6.cnt; omega) fun h39 b39 m39 => ⟨_, rfl, ?_⟩
   have bs7 := bs6.write okE' b39 m39
   have efr : wraps ((blks l).map pairsL) ++ wrapL (footT l (fltL l)) = tabL l := by unfold tabL framesT; simp [wraps]
   have k6 : h39[B + 6]? = some (.deferred (some [])) := bs7.fix _ _ (by subst hE'; exact .inr ⟨rfl, rfl⟩)
   refine ⟨k6, ?_⟩
   rw [efr]
   refine H _ ⟨?_, fun c hc _ => ?_⟩
   ·have := bs7.old.size; have := xg.size; simp; omega
   ·have := xg.size
    rw [Array.getElem?_setIfInBounds_ne (by omega)]
    exact (bs7.old.get c (by omega) (by omega)).trans (xg.get c hc (fun h => h))
end Go.Lf.G

/-
 The contracts of maps.Keys, slices.Sorted and slices.Sort at this translation (printed by the kit's lay-plain.mjs).
-/
namespace Go.Proofs
open Go.Shelf
def Tryz.keysA_ren : Go.Shelf.Ren := ⟨fun | 7 => 69 | 10 => 102 | n => n, fun | 23 => 94 | 26 => 9 | 3 => 115 | 28 => 123 | 0 => 0 | 27 => 122 | 33 => 114 | 4 => 4 | n => n, fun | n => n⟩
theorem Tryz.keysA : Go.Proofs.SlLaysZ.n7 Tryz.prog Tryz.keysA_ren := {
 mixed := by kernel_rfl
 f7 := ⟨Tryz.f69.name, by decide, Tryz.func69.trans (congrArg some (by kernel_rfl))⟩
 f10 := ⟨Tryz.f102.name, by decide, Tryz.func102.trans (congrArg some (by kernel_rfl))⟩
 t0 := Tryz.underlying0
 a0 := Tryz.isAgg0
 z0 := Tryz.sizeOf0
 v0 := Tryz.zeroValue0
 t4 := Tryz.underlying4
 a4 := Tryz.isAgg4
 z4 := Tryz.sizeOf4
 v4 := Tryz.zeroValue4
 t23 := Tryz.underlying94
 a23 := Tryz.isAgg94
 z23 := Tryz.sizeOf94
 v23 := Tryz.zeroValue94
 t26 := Tryz.underlying9
 a26 := Tryz.isAgg9
 z26 := Tryz.sizeOf9
 v26 := Tryz.zeroValue9
 t27 := Tryz.underlying122
 a27 := Tryz.isAgg122
 z27 := Tryz.sizeOf122
 v27 := Tryz.zeroValue122
 t28 := Tryz.underlying123
 a28 := Tryz.isAgg123
 z28 := Tryz.sizeOf123
 v28 := Tryz.zeroValue123
 t33 := Tryz.underlying114
 a33 := Tryz.isAgg114
 z33 := Tryz.sizeOf114
 v33 := Tryz.zeroValue114 }
def Tryz.sortedA_ren : Go.Shelf.Ren := ⟨fun | 6 => 68 | 8 => 100 | 9 => 101 | 11 => 126 | 13 => 128 | 12 => 127 | 23 => 155 | 24 => 156 | 14 => 146 | 15 => 147 | 16 => 148 | 17 => 149 | 18 => 150 | 19 => 151 | 20 => 152 | 21 => 153 | 22 => 154 | 25 => 179 | 26 => 180 | 27 => 181 | 28 => 182 | 29 => 183 | 30 => 184 | 31 => 196 | n => n, fun | 26 => 9 | 28 => 123 | 24 => 73 | 0 => 0 | 3 => 3 | 37 => 178 | 48 => 175 | 50 => 140 | 4 => 4 | 40 => 214 | 39 => 213 | 45 => 119 | 5 => 5 | 9 => 9 | 51 => 239 | 55 => 242 | 57 => 254 | 58 => 36 | 33 => 114 | n => n, fun | n => n⟩
theorem Tryz.sortedA : Go.Proofs.SlLaysZ.n6 Tryz.prog Tryz.sortedA_ren := {
 mixed := by kernel_rfl
 f6 := ⟨Tryz.f68.name, by decide, Tryz.func68.trans (congrArg some (by kernel_rfl))⟩
 f8 := ⟨Tryz.f100.name, by decide, Tryz.func100.trans (congrArg some (by kernel_rfl))⟩
 f11 := ⟨Tryz.f126.name, by decide, Tryz.func126.trans (congrArg some (by kernel_rfl))⟩
 t0 := Tryz.underlying0
 a0 := Tryz.isAgg0
 z0 := Tryz.sizeOf0
 v0 := Tryz.zeroValue0
 t24 := Tryz.underlying73
 a24 := Tryz.isAgg73
 z24 := Tryz.sizeOf73
 v24 := Tryz.zeroValue73
 t26 := Tryz.underlying9
 a26 := Tryz.isAgg9
 z26 := Tryz.sizeOf9
 v26 := Tryz.zeroValue9
 t28 := Tryz.underlying123
 a28 := Tryz.isAgg123
 z28 := Tryz.sizeOf123
 v28 := Tryz.zeroValue123
 i26 := by kernel_rfl }
def Tryz.sortA_ren : Go.Shelf.Ren := ⟨fun | 6 => 101 | 8 => 128 | 9 => 127 | 19 => 155 | 20 => 156 | 21 => 146 | 22 => 147 | 23 => 148 | 24 => 149 | 25 => 150 | 26 => 151 | 27 => 152 | 28 => 153 | 29 => 154 | 36 => 179 | 31 => 180 | 32 => 181 | 37 => 182 | 38 => 183 | 39 => 184 | 41 => 196 | n => n, fun | 27 => 73 | 29 => 9 | 3 => 3 | 32 => 178 | 26 => 73 | 0 => 0 | 44 => 175 | 46 => 140 | 4 => 4 | 36 => 214 | 35 => 213 | 41 => 119 | 5 => 5 | 9 => 9 | 53 => 239 | 57 => 242 | 63 => 254 | 64 => 36 | n => n, fun | n => n⟩
theorem Tryz.sortA : Go.Proofs.SlLaysM.n6 Tryz.prog Tryz.sortA_ren := {
 mixed := by kernel_rfl
 f6 := ⟨Tryz.f101.name, by decide, Tryz.func101.trans (congrArg some (by kernel_rfl))⟩
 f8 := Tryz.func128.trans (congrArg some (by kernel_rfl))
 f9 := ⟨Tryz.f127.name, by decide, Tryz.func127.trans (congrArg some (by kernel_rfl))⟩
 f19 := Tryz.func155.trans (congrArg some (by kernel_rfl))
 f20 := Tryz.func156.trans (congrArg some (by kernel_rfl))
 f21 := ⟨Tryz.f146.name, by decide, Tryz.func146.trans (congrArg some (by kernel_rfl))⟩
 f22 := ⟨Tryz.f147.name, by decide, Tryz.func147.trans (congrArg some (by kernel_rfl))⟩
 f23 := ⟨Tryz.f148.name, by decide, Tryz.func148.trans (congrArg some (by kernel_rfl))⟩
 f24 := ⟨Tryz.f149.name, by decide, Tryz.func149.trans (congrArg some (by kernel_rfl))⟩
 f25 := ⟨Tryz.f150.name, by decide, Tryz.func150.trans (congrArg some (by kernel_rfl))⟩
 f26 := ⟨Tryz.f151.name, by decide, Tryz.func151.trans (congrArg some (by kernel_rfl))⟩
 f27 := ⟨Tryz.f152.name, by decide, Tryz.func152.trans (congrArg some (by kernel_rfl))⟩
 f28 := ⟨Tryz.f153.name, by decide, Tryz.func153.trans (congrArg some (by kernel_rfl))⟩
 f29 := ⟨Tryz.f154.name, by decide, Tryz.func154.trans (congrArg some (by kernel_rfl))⟩
 f31 := Tryz.func180.trans (congrArg some (by kernel_rfl))
 f32 := Tryz.func181.trans (congrArg some (by kernel_rfl))
 f36 := ⟨Tryz.f179.name, by decide, Tryz.func179.trans (congrArg some (by kernel_rfl))⟩
 f37 := ⟨Tryz.f182.name, by decide, Tryz.func182.trans (congrArg some (by kernel_rfl))⟩
 f38 := ⟨Tryz.f183.name, by decide, Tryz.func183.trans (congrArg some (by kernel_rfl))⟩
 f39 := ⟨Tryz.f184.name, by decide, Tryz.func184.trans (congrArg some (by kernel_rfl))⟩
 f41 := ⟨Tryz.f196.name, by decide, Tryz.func196.trans (congrArg some (by kernel_rfl))⟩
 t0 := Tryz.underlying0
 a0 := Tryz.isAgg0
 z0 := Tryz.sizeOf0
 v0 := Tryz.zeroValue0
 t3 := Tryz.underlying3
 a3 := Tryz.isAgg3
 z3 := Tryz.sizeOf3
 v3 := Tryz.zeroValue3
 t4 := Tryz.underlying4
 a4 := Tryz.isAgg4
 z4 := Tryz.sizeOf4
 v4 := Tryz.zeroValue4
 t5 := Tryz.underlying5
 a5 := Tryz.isAgg5
 z5 := Tryz.sizeOf5
 v5 := Tryz.zeroValue5
 t9 := Tryz.underlying9
 a9 := Tryz.isAgg9
 z9 := Tryz.sizeOf9
 v9 := Tryz.zeroValue9
 t26 := Tryz.underlying73
 a26 := Tryz.isAgg73
 z26 := Tryz.sizeOf73
 v26 := Tryz.zeroValue73
 t27 := Tryz.underlying73
 a27 := Tryz.isAgg73
 z27 := Tryz.sizeOf73
 v27 := Tryz.zeroValue73
 t29 := Tryz.underlying9
 a29 := Tryz.isAgg9
 z29 := Tryz.sizeOf9
 v29 := Tryz.zeroValue9
 t32 := Tryz.underlying178
 a32 := Tryz.isAgg178
 z32 := Tryz.sizeOf178
 v32 := Tryz.zeroValue178
 t35 := Tryz.underlying213
 a35 := Tryz.isAgg213
 z35 := Tryz.sizeOf213
 v35 := Tryz.zeroValue213
 t36 := Tryz.underlying214
 a36 := Tryz.isAgg214
 z36 := Tryz.sizeOf214
 v36 := Tryz.zeroValue214
 t41 := Tryz.underlying119
 a41 := Tryz.isAgg119
 z41 := Tryz.sizeOf119
 v41 := Tryz.zeroValue119
 t44 := Tryz.underlying175
 a44 := Tryz.isAgg175
 z44 := Tryz.sizeOf175
 v44 := Tryz.zeroValue175
 t46 := Tryz.underlying140
 a46 := Tryz.isAgg140
 z46 := Tryz.sizeOf140
 v46 := Tryz.zeroValue140
 t53 := Tryz.underlying239
 a53 := Tryz.isAgg239
 z53 := Tryz.sizeOf239
 v53 := Tryz.zeroValue239
 t57 := Tryz.underlying242
 a57 := Tryz.isAgg242
 z57 := Tryz.sizeOf242
 v57 := Tryz.zeroValue242
 t63 := Tryz.underlying254
 a63 := Tryz.isAgg254
 z63 := Tryz.sizeOf254
 v63 := Tryz.zeroValue254
 t64 := Tryz.underlying36
 a64 := Tryz.isAgg36
 z64 := Tryz.sizeOf36
 v64 := Tryz.zeroValue36 }
def Tryz.sortI_ren : Go.Shelf.Ren := ⟨fun | 5 => 104 | 8 => 128 | 7 => 131 | 19 => 155 | 20 => 156 | 10 => 159 | 11 => 160 | 12 => 161 | 13 => 162 | 14 => 163 | 15 => 164 | 16 => 165 | 17 => 166 | 18 => 167 | 30 => 187 | 31 => 180 | 32 => 181 | 33 => 188 | 34 => 189 | 35 => 190 | 40 => 197 | n => n, fun | 23 => 22 | 25 => 3 | 3 => 3 | 32 => 178 | 22 => 22 | 0 => 0 | 44 => 175 | 46 => 140 | 4 => 4 | 36 => 214 | 35 => 213 | 41 => 119 | 5 => 5 | 9 => 9 | 53 => 239 | 57 => 242 | 63 => 254 | 64 => 36 | n => n, fun | n => n⟩
theorem Tryz.sortI : Go.Proofs.SlLaysM.n5 Tryz.prog Tryz.sortI_ren := {
 mixed := by kernel_rfl
 f5 := ⟨Tryz.f104.name, by decide, Tryz.func104.trans (congrArg some (by kernel_rfl))⟩
 f7 := ⟨Tryz.f131.name, by decide, Tryz.func131.trans (congrArg some (by kernel_rfl))⟩
 f8 := Tryz.func128.trans (congrArg some (by kernel_rfl))
 f10 := ⟨Tryz.f159.name, by decide, Tryz.func159.trans (congrArg some (by kernel_rfl))⟩
 f11 := ⟨Tryz.f160.name, by decide, Tryz.func160.trans (congrArg some (by kernel_rfl))⟩
 f12 := ⟨Tryz.f161.name, by decide, Tryz.func161.trans (congrArg some (by kernel_rfl))⟩
 f13 := ⟨Tryz.f162.name, by decide, Tryz.func162.trans (congrArg some (by kernel_rfl))⟩
 f14 := ⟨Tryz.f163.name, by decide, Tryz.func163.trans (congrArg some (by kernel_rfl))⟩
 f15 := ⟨Tryz.f164.name, by decide, Tryz.func164.trans (congrArg some (by kernel_rfl))⟩
 f16 := ⟨Tryz.f165.name, by decide, Tryz.func165.trans (congrArg some (by kernel_rfl))⟩
 f17 := ⟨Tryz.f166.name, by decide, Tryz.func166.trans (congrArg some (by kernel_rfl))⟩
 f18 := ⟨Tryz.f167.name, by decide, Tryz.func167.trans (congrArg some (by kernel_rfl))⟩
 f19 := Tryz.func155.trans (congrArg some (by kernel_rfl))
 f20 := Tryz.func156.trans (congrArg some (by kernel_rfl))
 f30 := ⟨Tryz.f187.name, by decide, Tryz.func187.trans (congrArg some (by kernel_rfl))⟩
 f31 := Tryz.func180.trans (congrArg some (by kernel_rfl))
 f32 := Tryz.func181.trans (congrArg some (by kernel_rfl))
 f33 := ⟨Tryz.f188.name, by decide, Tryz.func188.trans (congrArg some (by kernel_rfl))⟩
 f34 := ⟨Tryz.f189.name, by decide, Tryz.func189.trans (congrArg some (by kernel_rfl))⟩
 f35 := ⟨Tryz.f190.name, by decide, Tryz.func190.trans (congrArg some (by kernel_rfl))⟩
 f40 := ⟨Tryz.f197.name, by decide, Tryz.func197.trans (congrArg some (by kernel_rfl))⟩
 t0 := Tryz.underlying0
 a0 := Tryz.isAgg0
 z0 := Tryz.sizeOf0
 v0 := Tryz.zeroValue0
 t3 := Tryz.underlying3
 a3 := Tryz.isAgg3
 z3 := Tryz.sizeOf3
 v3 := Tryz.zeroValue3
 t4 := Tryz.underlying4
 a4 := Tryz.isAgg4
 z4 := Tryz.sizeOf4
 v4 := Tryz.zeroValue4
 t5 := Tryz.underlying5
 a5 := Tryz.isAgg5
 z5 := Tryz.sizeOf5
 v5 := Tryz.zeroValue5
 t9 := Tryz.underlying9
 a9 := Tryz.isAgg9
 z9 := Tryz.sizeOf9
 v9 := Tryz.zeroValue9
 t22 := Tryz.underlying22
 a22 := Tryz.isAgg22
 z22 := Tryz.sizeOf22
 v22 := Tryz.zeroValue22
 t23 := Tryz.underlying22
 a23 := Tryz.isAgg22
 z23 := Tryz.sizeOf22
 v23 := Tryz.zeroValue22
 t25 := Tryz.underlying3
 a25 := Tryz.isAgg3
 z25 := Tryz.sizeOf3
 v25 := Tryz.zeroValue3
 t32 := Tryz.underlying178
 a32 := Tryz.isAgg178
 z32 := Tryz.sizeOf178
 v32 := Tryz.zeroValue178
 t35 := Tryz.underlying213
 a35 := Tryz.isAgg213
 z35 := Tryz.sizeOf213
 v35 := Tryz.zeroValue213
 t36 := Tryz.underlying214
 a36 := Tryz.isAgg214
 z36 := Tryz.sizeOf214
 v36 := Tryz.zeroValue214
 t41 := Tryz.underlying119
 a41 := Tryz.isAgg119
 z41 := Tryz.sizeOf119
 v41 := Tryz.zeroValue119
 t44 := Tryz.underlying175
 a44 := Tryz.isAgg175
 z44 := Tryz.sizeOf175
 v44 := Tryz.zeroValue175
 t46 := Tryz.underlying140
 a46 := Tryz.isAgg140
 z46 := Tryz.sizeOf140
 v46 := Tryz.zeroValue140
 t53 := Tryz.underlying239
 a53 := Tryz.isAgg239
 z53 := Tryz.sizeOf239
 v53 := Tryz.zeroValue239
 t57 := Tryz.underlying242
 a57 := Tryz.isAgg242
 z57 := Tryz.sizeOf242
 v57 := Tryz.zeroValue242
 t63 := Tryz.underlying254
 a63 := Tryz.isAgg254
 z63 := Tryz.sizeOf254
 v63 := Tryz.zeroValue254
 t64 := Tryz.underlying36
 a64 := Tryz.isAgg36
 z64 := Tryz.sizeOf36
 v64 := Tryz.zeroValue36 }
end Go.Proofs

/-
 Contracts: the box (chapter 3): the names in their order; List; Crash.
-/
set_option maxRecDepth 100000
set_option linter.unusedVariables false
set_option linter.unusedSimpArgs false
namespace Go.Lf.G
open Go
abbrev f_keys1 : FuncId := f_maps_Keys_of_map_string__box_file_string__box_file_1
theorem Keys_ok {A : Amb} {h : Heap} {mb : Option Nat} {R : Value → Heap → Prop} (H : ∀ T h', h'[h.size]? = some (.cells #[.map mb] T (0, 0)) → Ext h h' → h'.size = h.size + 1 → R (.func (.func f_keys1) #[] #[ptrV h.size]) h') :
  HCalls A P f_maps_Keys_of_map_string__box_file_string__box_file #[.map mb] h R := by
 intro n
 have h0 := Proofs.AnyZ.keys_in Proofs.Tryz.keysA Fence.wide 5 trivial rfl mb (A.at h n)
 have h1 := callsIn_wide.1 h0
 refine Calls.mono h1 ?_
 rintro e w' ⟨rfl, rfl⟩
 refine ⟨_, rfl, h.push (.cells #[.map mb] (Proofs.Tryz.keysA_ren.t 23)), n, rfl, ?_⟩
 exact H (Proofs.Tryz.keysA_ren.t 23) (h.push (.cells #[.map mb] (Proofs.Tryz.keysA_ren.t 23))) (by simp) (Mod.push h _) (by simp)
theorem sortsA (m : Nat) : Proofs.AnyZ.SortsIn P Proofs.Tryz.sortedA_ren Fence.wide m :=
 ⟨fun blk off cap ss W hH hblk hsz => callsIn_wide.2 (Proofs.AnyM.slices_Sort_string Proofs.Tryz.sortA blk off cap ss W hH hblk hsz),
 fun p cap W => callsIn_wide.2 (Proofs.AnyM.slices_Sort_string_none Proofs.Tryz.sortA p cap W)⟩
theorem Sorted_ok {A : Amb} {h : Heap} {c r : Nat} {T : TypeId} {m : List (ByteArray × Value)} {l : List ByteArray} {R : Value → Heap → Prop} (hc : h[c]? = some (.cells #[.map (some r)] T (0, 0))) (M : MapS h r m)
  (hl : SortedS l) (hp : (m.map (·.1)).Perm l) (hb : m.length ≤ 8796093022208)
  (H : ∀ s h', Own StrE t_string h' s l → Ext h h' → (∀ b, s.blk = some b → h.size ≤ b) → R (.slice s.p s.len s.cap) h') :
  HCalls A P f_slices_Sorted_of_string #[.func (.func f_keys1) #[] #[ptrV c]] h R := by
 intro n
 obtain ⟨D, hown, hperm, hsize⟩ := keys_owned (P := P) (kt := t_string) P_str (w := A.at h n) M
 have hseq : SeqGives Fence.wide 2 P f_keys1 #[ptrV c] Proofs.encStr (fun ss => ss.Perm (strKeys D)) (Maps.size D) (A.at h n) :=
  Proofs.AnyZ.keys_gives (ρ := Proofs.Tryz.keysA_ren) { Proofs.Tryz.keysA with } Fence.wide _ trivial rfl (by omega) c r _ D _ (show c < h.size from blk_lt hc) (by show hget h ⟨c, 0, none⟩ = _; rw [hget_cells hc]; rfl) hown
 have h0 := Proofs.AnyZ.sorted_in Proofs.Tryz.sortedA Fence.wide 5 trivial trivial trivial trivial rfl (by omega) (sortsA _) (Proofs.enters_of Proofs.Tryz.func101 (by kernel_rfl) rfl) f_keys1 #[ptrV c] trivial (Proofs.enters_of Proofs.Tryz.func102 (by kernel_rfl) rfl) _ _ (by rw [hsize]; simp [maxLen]; omega) (by rw [hsize]; omega) _ hseq
 have h1 := callsIn_wide.1 h0
 refine Calls.mono h1 ?_
 rintro e w' ⟨v, ss, rfl, hS, hrow, hnil, hbl⟩
 have hw' : w' = A.at w'.heap w'.drawn := at_of (A := A) (h := h) (n := n) rfl hbl.os hbl.tape hbl.output
 have hperm2 : ss.Perm (l.map fun x => x.data.toList) := by
  refine (hS.trans hperm).trans ?_
  have := hp.map fun x : ByteArray => x.data.toList
  simpa [List.map_map, Function.comp_def] using this
 have hsl : ss.length = l.length := by have := hperm2.length_eq; simpa using this
 rw [sort_names hl hperm2, enc_names] at hrow
 have hx : Ext h w'.heap := ⟨hbl.size, fun b hb _ => hbl.block b hb⟩
 rcases hrow.2 with ⟨rfl, h00⟩ | ⟨g, cap, cur, rfl, hgb, hg, hcc, hm, hs, ht⟩
 ·have : l = [] := List.eq_nil_of_length_eq_zero (by omega)
  subst this
  exact ⟨_, rfl, w'.heap, w'.drawn, hw', H ⟨none, 0, 0⟩ _ Own.nil hx (fun b hb => by simp [Sl.blk] at hb)⟩
 ·refine ⟨_, rfl, w'.heap, w'.drawn, hw', H ⟨some ⟨g, 0, none⟩, ss.length, cap⟩ _ ⟨hsl, .inr ⟨g, cur, rfl, hg, hcc, hm, hs, ht⟩⟩ hx (fun b hb => ?_)⟩
  simp [Sl.blk] at hb; subst hb; exact hgb
/-! ### List -/
def listB (m : Bx) : List ByteArray × Int := if m.down then ([], 30) else (m.files.map (·.name), 0)
theorem BoxAt.names {h : Heap} {b r : Nat} {kv : List (Fi × Nat)} {m : Bx} (B : BoxAt h b r kv m) : ((kvM kv).map (·.1)).Perm (m.files.map (·.name)) ∧ (kvM kv).length ≤ 8796093022208 := by
 refine ⟨?_, ?_⟩
 ·have := B.perm.map (·.name)
  simpa [kvM, List.map_map, Function.comp_def] using this
 ·have h1 := B.perm.length_eq
  have h2 := wtF_len m.files
  have h3 := B.good.wt
  simp at h1 ⊢
  omega
theorem BoxAt.sortedKeys {A : Amb} {h : Heap} {b r : Nat} {kv : List (Fi × Nat)} {m : Bx} (B : BoxAt h b r kv m) {R : Sl → Heap → Prop}
  (H : ∀ s h', Own StrE t_string h' s (m.files.map (·.name)) → Ext h h' → (∀ c, s.blk = some c → h.size ≤ c) → R s h') :
  HCalls A P f_maps_Keys_of_map_string__box_file_string__box_file #[.map (some r)] h fun v1 h2 => ∃ t10 : Value, v1 = t10 ∧ (
   HCalls A P f_slices_Sorted_of_string #[t10] h2 fun v2 h3 => ∃ t11 : Sl, v2 = .slice t11.p t11.len t11.cap ∧ R t11 h3) := by
 refine Keys_ok fun T h1 hb1 x1 hs1 => ⟨_, rfl, ?_⟩
 refine Sorted_ok hb1 (B.map.mod x1 (fun h => h)) (sortedF_iff.1 B.good.sorted) B.names.1 B.names.2 fun s h2 o2 x2 f2 => ⟨s, rfl, ?_⟩
 exact H s h2 o2 (x1.trans x2) (fun c hc => by have := f2 c hc; omega)
theorem bList_ok {A : Amb} {h : Heap} {b : Nat} {S : Nat → Prop} {m : Bx} {R : Value → Heap → Prop} (B : IsBox h b S m)
  (H : ∀ s h', Own StrE t_string h' s (listB m).1 → Ext h h' → (∀ c, s.blk = some c → h.size ≤ c) → R (.tuple #[.slice s.p s.len s.cap, .int .i64 (listB m).2]) h') : HCalls A P f_box_Box_List #[ptrV b] h R := by
 obtain ⟨r, kv, B, hS⟩ := B
 refine ok_box_Box_List ?_
 unfold F_box_Box_List
 refine off_ok B.head ⟨_, rfl, ?_⟩
 unfold listB at H
 refine PIf.intro (fun hd => ?_) (fun hd => ?_)
 ·rw [if_pos hd] at H; exact H ⟨none, 0, 0⟩ h Own.nil Mod.refl (fun c hc => by simp [Sl.blk] at hc)
 rw [if_neg (by simp [hd])] at H
 exact atI (LoadM.mk (hget_lit B.head rfl) (B.sortedKeys fun s h' o x f => H s h' o x f))
/-! ### Crash -/
theorem BoxAt.add {h h' : Heap} {b r c : Nat} {kv : List (Fi × Nat)} {m : Bx} {x : Fi} {l : List Fi} (B : BoxAt h b r kv m) (M : MapS h' r (kvM (kv ++ [(x, c)]))) (hc : h'[c]? = some (.cells #[.string x.firm, .string x.soft] t_box_file (0, 0)))
  (hn : h.size ≤ c) (md : Mod (· = r) h h') (hp : (x :: m.files).Perm l) (g : GoodB { m with files := l }) : BoxAt h' b r (kv ++ [(x, c)]) { m with files := l } := by
 refine ⟨md.blk B.head B.ne_br.symm, M, ?_, ?_, ?_, g⟩
 ·intro p hp
  rcases List.mem_append.1 hp with hp | hp
  ·exact md.blk (B.cells p hp) (B.ne_pb hp).2
  ·simp at hp; subst hp; exact hc
 ·rw [List.map_append]
  exact (List.perm_append_singleton _ _).trans ((B.perm.cons _).trans hp)
 ·rw [List.map_append]
  refine List.nodup_append.2 ⟨B.nodup, by simp, ?_⟩
  intro a ha c' hc'
  obtain ⟨p, hp, rfl⟩ := List.mem_map.1 ha
  simp at hc'; subst hc'
  have := blk_lt (B.cells p hp); omega
theorem bCrash_ok {A : Amb} {h : Heap} {b : Nat} {S : Nat → Prop} {m : Bx} {keep : Sl} {ks : List Int} {R : Value → Heap → Prop} (B : IsBox h b S m) (V : View IntE h keep ks)
  (H : ∀ b' h' S', IsBox h' b S (offB m) → IsBox h' b' S' (crashB m ks) → Mod S h h' → (∀ c, S' c → h.size ≤ c) → R (ptrV b') h') : HCalls A P f_box_Box_Crash #[ptrV b, .slice keep.p keep.len keep.cap] h R := by
 obtain ⟨r, kv, B, hS⟩ := B
 refine ok_box_Box_Crash ?_
 unfold F_box_Box_Crash
 refine PIf.no rfl ?_
 refine bNew_ok fun bn h1 Sn Bn x1 fn => ⟨_, rfl, ?_⟩
 have B1 := B.mod x1 (fun _ _ h => h)
 refine atI (LoadM.mk (hget_lit B1.head rfl) (B1.sortedKeys (R := fun t19 h3 => Loop _ _ _) fun s h2 o2 x2 f2 => ?_))
 have hlen : m.files.length ≤ 8796093022208 := by have := wtF_len m.files; have := B.good.wt; omega
 have x02 : Ext h h2 := x1.trans x2
 have hsn : ∀ c, s.blk = some c → ¬ Sn c := fun c hc hs => by have := Bn.lt hs; have := f2 c hc; omega
 obtain ⟨rn, kvn, Bn, hSn⟩ := Bn
 have hfn : ∀ c, footB bn rn kvn c → h.size ≤ c ∧ c < h1.size := fun c hc => ⟨fn c ((hSn c).2 hc), Bn.lt hc⟩
 -- the loop
 refine Loop.rule (fun q x hh => ∃ (i : Nat) (kvi : List (Fi × Nat)), x = (((cntF 0 (m.files.take i) : Nat) : Int), (i : Int), ()) ∧ q = m.files.length - i ∧ i ≤ m.files.length ∧
  BoxAt hh bn rn kvi ⟨crashF ks 0 (m.files.take i), -1, false⟩ ∧ (∀ c, footB bn rn kvi c → footB bn rn kvn c ∨ h2.size ≤ c) ∧ Mod (footB bn rn kvn) h2 hh) ?_
  ⟨0, kvn, rfl, rfl, by omega, by simpa [crashF, newB] using Bn.mod x2 (fun _ _ h => h), fun c hc => .inl hc, Mod.refl⟩
 rintro K q _ hh ⟨i, kvi, rfl, rfl, hi, Bi, hki, mi⟩ hK
 have m0 : Ext h hh := (x02.mod.trans mi).weak' fun c hc hf => by have := hfn c hf; omega
 have Bh := B.mod m0 (fun _ _ h => h)
 refine PIf.intro (fun hq => ?_) (fun hq => ?_)
 ·have hil : i < m.files.length := by simpa [o2.len] using hq
  have hgi := List.getElem?_eq_getElem hil
  generalize m.files[i] = f at hgi
  have hmem : f ∈ m.files := List.mem_of_getElem? hgi
  have oh : Own StrE t_string hh s (m.files.map (·.name)) := o2.mod mi fun c hc hf => by have := f2 c hc; have := hfn c hf; omega
  refine Join.mk fun K1 hK1 => ?_
  refine oh.view.idx (i := i) (x := f.name) (by simp [hgi]) fun a ha ca => LoadS.mk ca.str ?_
  refine atI (LoadM.mk (hget_lit Bh.head rfl) (lookup_ok P_mpf P_str P_zpf Bh.map ?_))
  have hfind := B.good.sorted.find hmem
  rcases Bh.look f.name with ⟨k1, k2⟩ | ⟨p, hp, k1, k2, k3⟩
  ·rw [hfind] at k2; cases k2
  rw [hfind] at k2
  have hpf : p.1 = f := (Option.some.inj k2).symm
  rw [k1]
  refine ⟨some ⟨p.2, 0, none⟩, rfl, ?_⟩
  have hc := Bh.cells p hp
  rw [hpf] at hc
  have hcount := cntF_le (m.files.take i) 0
  have hti : (m.files.take i).length = i := by simp; omega
  have hsnoc : m.files.take (i + 1) = m.files.take i ++ [f] := by rw [List.take_add_one, hgi]; rfl
  have hfw := wtF_mem hmem
  have hwt := B.good.wt
  refine atI (LoadS.mk (hget_lit hc rfl) (Join.mk fun K2 hK2 => ?_))
  -- the next round
  have next : ∀ h5 kv5, BoxAt h5 bn rn kv5 ⟨crashF ks 0 (m.files.take (i + 1)), -1, false⟩ → (∀ c, footB bn rn kv5 c → footB bn rn kvn c ∨ h2.size ≤ c) → Mod (footB bn rn kvn) h2 h5 → K1 (((nextF (cntF 0 (m.files.take i)) f : Nat) : Int), ()) h5 := fun h5 kv5 B5 e5 m5 => by
   refine hK1 _ _ (hK (m.files.length - (i + 1)) _ _ (by omega) ⟨i + 1, kv5, ?_, rfl, by omega, B5, e5, m5⟩)
   rw [wrap_succ (by omega), hsnoc, cntF_snoc]
  have keep2 : K2 (((nextF (cntF 0 (m.files.take i)) f : Nat) : Int), keptF ks (cntF 0 (m.files.take i)) f, ()) hh := hK2 _ _ (by
   rw [sEq_iff]
   have hsn2 := crashF_snoc ks (m.files.take i) f
   rw [← hsnoc] at hsn2
   unfold oneF at hsn2
   refine PIf.intro (fun hq => ?_) (fun hq => ?_)
   ·have hq : ¬ keptF ks (cntF 0 (m.files.take i)) f = bs0 := by simpa using hq
    rw [if_neg hq] at hsn2
    refine atI (LoadM.mk (hget_lit Bi.head rfl) (New.mk fun h5 _ hb5 x5 hs5 => ?_))
    have B5 := Bi.mod x5 (fun _ _ h => h)
    have hnew : lookM f.name (kvM kvi) = none := by
     rcases Bi.look f.name with ⟨k1, _⟩ | ⟨p', _, _, k2', k3'⟩
     ·exact k1
     ·exfalso
      have hm := (findF_some k2').2
      obtain ⟨f', hf', e'⟩ := mem_crashF hm
      rw [k3'] at e'
      obtain ⟨j, hj, e2⟩ := List.getElem_of_mem hf'
      have hji : j < i := by simp at hj; omega
      have hs := List.pairwise_iff_getElem.1 B.good.sorted j i (by omega) hil hji
      have e3 : m.files[j] = f' := by simpa using e2
      have e4 : m.files[i] = f := by have := List.getElem?_eq_getElem hil; rw [hgi] at this; exact (Option.some.inj this).symm
      rw [e3, e4, e'] at hs
      exact lt_ne hs rfl
    have hkl : (kvM kvi).length ≤ i := by
     have h1 := Bi.perm.length_eq
     have h2 : (crashF ks 0 (m.files.take i)).length ≤ (m.files.take i).length := crashF_len
     simp at h1 ⊢; simp at h1 h2; omega
    refine update_ok P_mpf P_str B5.map (by have := B.good.names f hmem; simp [maxLen]; omega) (by simp only [maxLen]; omega) fun h6 M6 m6 hs6 => ?_
    rw [updM_new hnew] at M6
    have hrl := B5.map.lt
    have hb6 := m6.blk hb5 (by have := Bi.map.lt; omega)
    have B6 := BoxAt.add (x := ⟨f.name, keptF ks (cntF 0 (m.files.take i)) f, bs0⟩) (c := hh.size) (l := crashF ks 0 (m.files.take (i + 1))) Bi (by rw [kvM, List.map_append]; exact M6) hb6 (Nat.le_refl _) (x5.mod.trans m6)
     (by rw [hsn2]; exact (List.perm_append_singleton _ _).symm) (by
      have hg : GoodB (crashB { m with files := m.files.take (i + 1) } ks) := by
       refine GoodB.crash (m := { m with files := m.files.take (i + 1) }) ⟨B.good.sorted.sublist (List.take_sublist _ _), fun f2 hf2 => B.good.names f2 (List.mem_of_mem_take (i := i + 1) hf2), B.good.lo, B.good.hi, ?_⟩
       have := wtF_take (i + 1) m.files
       show wtF (m.files.take (i + 1)) ≤ 8796093022208
       omega
      exact hg)
    refine next h6 _ B6 ?_ ((mi.trans x5.mod).trans (m6.weak fun c _ hc => ?_))
    ·intro c hc
     rcases hc with hc | hc | ⟨p', hp', rfl⟩
     ·exact .inl (.inl hc)
     ·exact .inl (.inr (.inl hc))
     ·rcases List.mem_append.1 hp' with hp' | hp'
      ·exact hki _ (.inr (.inr ⟨p', hp', rfl⟩))
      ·simp at hp'; subst hp'; exact .inr mi.size
    ·exact .inr (.inl hc)
   ·have hq : keptF ks (cntF 0 (m.files.take i)) f = bs0 := by simpa using hq
    rw [if_pos hq, List.append_nil] at hsn2
    exact next hh kvi (by rw [hsn2]; exact Bi) hki mi)
  refine atI (LoadS.mk (hget_lit1 hc rfl) ?_)
  rw [sEq_iff]
  unfold keptF nextF at keep2
  refine PIf.intro (fun hq => ?_) (fun hq => ?_)
  ·have hq : ¬ f.soft = bs0 := by simpa using hq
   rw [if_neg hq, if_neg hq] at keep2
   refine Join.mk fun K3 hK3 => ?_
   have k3 : ∀ x, x = (match ks[cntF 0 (m.files.take i)]? with | some n => f.firm ++ f.soft.extract 0 (min n.toNat f.soft.size) | none => f.firm) → K3 (x, ()) hh := fun x hx => hK3 _ _ (by
    rw [wrap_succ (by omega), hx]; exact keep2)
   refine PIf.intro (fun hq2 => ?_) (fun hq2 => ?_)
   ·have hkl : cntF 0 (m.files.take i) < ks.length := by simpa [V.len] using hq2
    have hgk := List.getElem?_eq_getElem hkl
    generalize ks[cntF 0 (m.files.take i)] = n at hgk
    rw [hgk] at k3
    have Vh := V.ext m0
    refine atI (LoadS.mk (hget_lit1 hc rfl) (Vh.idx hgk fun a _ ca => LoadI.mk ca.int (atI (LoadS.mk (hget_lit1 hc rfl) ?_))))
    have e : (if ((if ((f.soft.size : Int) : Int) < n then (f.soft.size : Int) else n) : Int) > 0 then (if ((f.soft.size : Int) : Int) < n then (f.soft.size : Int) else n) else 0) = ((min n.toNat f.soft.size : Nat) : Int) := by
     split <;> split <;> omega
    rw [e]
    refine ⟨⟨by omega, by omega⟩, ?_, ?_⟩
    ·rw [max_i64, ByteArray.size_extract]; omega
    ·exact k3 _ rfl
   ·have hkl : ks.length ≤ cntF 0 (m.files.take i) := by simpa [V.len] using hq2
    refine k3 _ ?_
    rw [List.getElem?_eq_none hkl]
  ·have hq : f.soft = bs0 := by simpa using hq
   rw [if_pos hq, if_pos hq] at keep2
   exact keep2
 ·have hil : i = m.files.length := by simp [o2.len] at hq; omega
  subst hil
  rw [List.take_length] at Bi
  refine atI (Store.mk1 Bh.head (by simp) fun h5 hb5 m5 hs5 => ?_)
  have B5 := Bh.hd (m' := offB m) (by simpa [offB] using hb5) m5 rfl B.good.off
  refine H bn h5 (footB bn rn kvi) ⟨r, kv, B5, hS⟩ ⟨rn, kvi, Bi.mod m5 ?_, fun _ => Iff.rfl⟩ (m0.mod.trans (m5.weak fun c _ hc => (hS c).2 (.inl hc))) ?_
  ·rintro c hc rfl
   have hbl := blk_lt B.head
   rcases hki _ hc with h | h
   ·have := hfn _ h; omega
   ·have := x02.size; omega
  ·intro c hc
   rcases hki c hc with h | h
   ·exact (hfn _ h).1
   ·have := x02.size; omega
end Go.Lf.G

