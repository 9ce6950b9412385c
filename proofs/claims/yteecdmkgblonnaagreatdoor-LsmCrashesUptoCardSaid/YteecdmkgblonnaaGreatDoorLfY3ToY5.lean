/-
 Contracts: batches of changes as bytes.
-/
import Derived.Test.YteecdmkgblonnaaGreatDoorLfX1ToY2
import Derived.Test.YteecdmkgblonnaaGreatDoorLfKToU6
set_option linter.unusedVariables false
set_option linter.unusedSimpArgs false
set_option maxRecDepth 100000
set_option linter.unusedVariables false
set_option linter.unusedSimpArgs false
namespace Go.Lf.G
open Go
def batchL (seg : Nat) (l : List Pr) : List UInt8 := putV seg ++ putV l.length ++ pairsL l
theorem pairs_most {l : List Pr} (h : ∀ x ∈ l, PrOk x) : (pairsL l).length ≤ l.length * 8276 := by
 induction l with
 | nil => simp
 | cons x l ih =>
  have h0 := h x List.mem_cons_self
  have h1 := (pairL_len h0).2
  have h2 := h0.keyMost
  have h3 := h0.valMost
  have := ih fun y hy => h y (List.mem_cons_of_mem _ hy)
  simp only [pairsL, List.flatMap_cons, List.length_append, List.length_cons] at this ⊢
  omega
theorem take_ok {l : List Pr} (h : ∀ x ∈ l, PrOk x) (i : Nat) : ∀ x ∈ l.take i, PrOk x := fun x hx => h x (List.mem_of_mem_take hx)
theorem batch_ok {A : Amb} {h : Heap} {s : Sl} {l : List Pr} {seg : Nat} {R : Value → Heap → Prop} (hseg : seg ≤ 99999999) (hn : l.length ≤ 64) (ho : ∀ x ∈ l, PrOk x) (hv : View PairE h s l) (hb : ∀ b, s.blk = some b → b < h.size)
  (H : ∀ h', Ext h h' → R (.string (strL (batchL seg l))) h') : HCalls A P f_lsm_batch #[.int .i64 (seg : Int), .slice s.p s.len s.cap] h R := by
 refine ok_lsm_batch ?_
 unfold F_lsm_batch
 rw [wrap_u64n (by omega)]
 refine vPut_ok (by omega) fun h1 x1 => ⟨_, rfl, ?_⟩
 rw [hv.len, wrap_u64n (by omega)]
 refine vPut_ok (by omega) fun h2 x2 => ⟨_, rfl, ?_⟩
 have l1 := putV_len10 (n := seg) (by omega)
 have l2 := putV_len10 (n := l.length) (by omega)
 refine ⟨by rw [strL_size, strL_size, max_i64]; omega, ?_⟩
 rw [strL_app]
 refine Loop.rule (fun m x hh => ∃ i : Nat, x = (strL (putV seg ++ putV l.length ++ pairsL (l.take i)), (i : Int), ()) ∧ m = l.length - i ∧ i ≤ l.length ∧ Ext h hh) ?_ ⟨0, by simp, rfl, by omega, x1.trans x2⟩
 rintro K m _ hh ⟨i, rfl, rfl, hi, xx⟩ hK
 dsimp only
 refine PIf.intro (fun hq => ?_) (fun hq => ?_)
 ·have hil : i < l.length := by simp at hq; omega
  have hx : l[i]? = some l[i] := List.getElem?_eq_getElem hil
  have ht : l.take (i + 1) = l.take i ++ [l[i]] := by rw [List.take_add_one, hx]; rfl
  have hox := ho _ (List.getElem_mem hil)
  generalize l[i] = x at hx ht hox
  have hk := hox.keyMost
  have hvm := hox.valMost
  have hg := hox.gone
  have lt := pairs_most (take_ok ho i)
  rw [List.length_take] at lt
  have lk1 := putV_len10 (n := (bl x.key).length) (by rw [bl_size]; omega)
  have lk := bl_size x.key
  have lv := bl_size x.val
  refine Join.mk fun K1 hK1 => ?_
  obtain ⟨a, ha, hc⟩ := (hv.ext xx).cells i x hx
  refine Idx.mk ha hil ?_
  obtain ⟨c0, c1, c2⟩ := hc.pair
  rw [Int.toNat_natCast]
  refine LoadS.mk c0 (LoadS.mk c1 (LoadB.mk c2 ?_))
  refine New.pair fun b h5 hbe hb5 x5 hs5 => ?_
  refine LoadS.mk (hget_lit hb5 rfl) ?_
  refine vText_okS (by omega) fun h9 x9 => ⟨_, rfl, ⟨by rw [strL_size, strL_size, max_i64]; simp only [textL, List.length_append]; omega, ?_⟩⟩
  have hb9 := ext_cells x9 hb5
  refine LoadB.mk (hget_lit1 hb9 rfl) ?_
  rw [strL_app]
  have fin : ∀ h', Ext h9 h' → K1 (strL (putV seg ++ putV l.length ++ pairsL (l.take (i + 1))), ()) h' := by
   intro h' x'
   refine hK1 _ _ ?_
   dsimp only
   rw [wrap_succ (by omega)]
   exact hK (l.length - (i + 1)) _ _ (by omega) ⟨i + 1, rfl, rfl, hil, ((xx.trans x5).trans x9).trans x'⟩
  have hpl : pairsL (l.take (i + 1)) = pairsL (l.take i) ++ pairL x := by rw [ht]; simp [pairsL]
  refine PIf.intro (fun hq1 => ?_) (fun hq1 => ?_)
  ·refine vPut_ok (n := 0) (by omega) fun h10 x10 => ⟨_, rfl, ?_⟩
   have l3 := putV_len10 (n := 0) (by omega)
   refine ⟨by rw [strL_size, strL_size, max_i64]; simp only [textL, List.length_append]; omega, ?_⟩
   rw [strL_app]
   have e : pairL x = textL (bl x.key) ++ putV 0 := by
    unfold pairL goneN
    rw [hq1, empty_bl (hg hq1)]
    simp
   have := fin h10 x10
   rw [hpl, e] at this
   simpa only [List.append_assoc] using this
  ·refine LoadS.mk (hget_lit1 hb9 rfl) ?_
   rw [len_u64 (by omega)]
   refine vPut_ok (by omega) fun h11 x11 => ⟨_, rfl, ?_⟩
   have l3 := putV_len10 (n := x.val.size + 1) (by omega)
   refine LoadS.mk (hget_lit1 (ext_cells x11 hb9) rfl) ⟨hget_lit1 hb9 rfl, ?_, ?_, ?_⟩
   ·rw [strL_size, max_i64]; omega
   ·have e0 : x.val = strL (bl x.val) := (strL_of _).symm
    rw [ByteArray.size_append, strL_size, strL_size, max_i64]; simp only [textL, List.length_append]; omega
   ·have e : strL (putV (x.val.size + 1)) ++ x.val = strL (putV (goneN x) ++ bl x.val) := by
     conv => lhs; arg 2; rw [(strL_of x.val).symm]
     rw [strL_app]
     unfold goneN
     rw [hq1]
     rfl
    rw [e, strL_app]
    have := fin h11 x11
    rw [hpl] at this
    unfold pairL at this
    simpa only [List.append_assoc] using this
 ·have hil : i = l.length := by simp at hq; omega
  have e : l.take i = l := by rw [hil]; simp
  rw [e]
  exact H hh xx
theorem changes_ok {A : Amb} {h : Heap} {l : List Pr} {seg : Nat} {R : Value → Heap → Prop} (hseg : seg ≤ 99999999) (hn : l.length ≤ 64) (ho : ∀ x ∈ l, PrOk x)
  (H : ∀ s h', Own PairE t_api_Pair h' s l → Ext h h' → (∀ b, s.blk = some b → h.size ≤ b) → R (.tuple #[.int .i64 (seg : Int), .slice s.p s.len s.cap, .bool true]) h') : HCalls A P f_lsm_changes #[.string (strL (batchL seg l))] h R := by
 refine ok_lsm_changes ?_
 unfold F_lsm_changes
 have l1 := putV_len10 (n := seg) (by omega)
 have l2 := putV_len10 (n := l.length) (by omega)
 have lm := pairs_most ho
 refine vRead_ok fun h1 r1 x1 => ⟨_, rfl, ?_⟩
 have e1 : batchL seg l = putV seg ++ (putV l.length ++ pairsL l) := by simp [batchL, List.append_assoc]
 rw [e1] at r1
 refine vInt_ok (most := 99999999) r1 (by simp only [List.length_append]; omega) (by decide) fun h2 r2 m2 => ⟨_, rfl, ?_⟩
 rw [intR_put (by omega) (by omega)] at r2 ⊢
 dsimp only at r2 ⊢
 refine vInt_ok (most := 64) r2 (by simp only [List.length_append]; omega) (by decide) fun h3 r3 m3 => ⟨_, rfl, ?_⟩
 rw [intR_put (by omega) (by omega)] at r3 ⊢
 dsimp only at r3 ⊢
 have x3 : Ext h h3 := by
  refine ⟨by have := x1.size; have := m2.size; have := m3.size; omega, fun b hb _ => ?_⟩
  have := x1.size
  have := m2.size
  exact ((m3.get b (by omega) (by omega)).trans (m2.get b (by omega) (by omega))).trans (x1.get b hb (fun h => h))
 refine Loop.rule (fun m x hh => ∃ (i : Nat) (s : Sl), x = (s, (i : Int), ()) ∧ m = l.length - i ∧ i ≤ l.length ∧ RdAt hh h.size ⟨pairsL (l.drop i), false⟩ ∧ Ext h hh ∧ Own PairE t_api_Pair hh s (l.take i) ∧ ∀ b, s.blk = some b → h.size ≤ b) ?_ ⟨0, ⟨none, 0, 0⟩, rfl, rfl, by omega, r3, x3, Own.nil, fun b hb => by simp [Sl.blk] at hb⟩
 rintro K m _ hh ⟨i, s, rfl, rfl, hi, rd, xx, oo, hs⟩ hK
 dsimp only
 refine PIf.intro (fun hq => ?_) (fun hq => ?_)
 ·have hil : i < l.length := by simp at hq; omega
  have hx : l[i]? = some l[i] := List.getElem?_eq_getElem hil
  have hmem : l[i] ∈ l := List.getElem_mem hil
  have hd : l.drop i = l[i] :: l.drop (i + 1) := List.drop_eq_getElem_cons hil
  have ht : l.take (i + 1) = l.take i ++ [l[i]] := by rw [List.take_add_one, hx]; rfl
  generalize l[i] = x at hx hmem hd ht
  have hox := ho x hmem
  have hp : pairsL (l.drop i) = pairL x ++ pairsL (l.drop (i + 1)) := by rw [hd]; rfl
  have hlen : (pairL x ++ pairsL (l.drop (i + 1))).length < 1099511627776 := by
   have e : pairsL l = pairsL (l.take i) ++ pairsL (l.drop i) := by rw [← List.flatMap_append, List.take_append_drop]
   have := congrArg List.length e
   rw [hp, List.length_append] at this
   omega
  rw [hp] at rd
  refine vRText_ok rd hlen fun h2 r2 m2 => ⟨_, rfl, ?_⟩
  rw [pair_text hox] at r2 ⊢
  dsimp only at r2 ⊢
  rw [strL_of]
  refine New.mk fun h5 _ hb5 x5 hs5 => ?_
  refine Store.mk hb5 (by simp) fun h6 hb6 m6 hs6 => ?_
  rw [add_mk, add_mk]
  refine Store.mk hb6 (by simp) fun h7 hb7 m7 hs7 => ?_
  refine Store.mk hb7 (by simp) fun h8 hb8 m8 hs8 => ?_
  have hbb : h.size < h2.size := by have := blk_lt r2; exact this
  have hne : h.size ≠ h2.size := by omega
  have r8 : RdAt h8 h.size ⟨putV (goneN x) ++ bl x.val ++ pairsL (l.drop (i + 1)), false⟩ := m8.blk (m7.blk (m6.blk (x5.blk r2 (fun h => h)) hne) hne) hne
  have hrl : (putV (goneN x) ++ bl x.val ++ pairsL (l.drop (i + 1))).length ≤ 1099511627776 := by
   simp only [pairL, List.length_append] at hlen ⊢; omega
  refine vInt_ok (most := 8193) r8 hrl (by decide) fun h9 r9 m9 => ⟨_, rfl, ?_⟩
  rw [pair_int hox] at r9 ⊢
  dsimp only at r9 ⊢
  have hb9 : h9[h2.size]? = some (.cells #[.string x.key, .string ⟨#[]⟩, .bool false] t_api_Pair (0, 0)) := m9.blk (by simpa using hb8) (Ne.symm hne)
  have hgn := goneN_le hox
  have hg : (((goneN x : Nat) : Int) == (0 : Int)) = x.gone := by
   unfold goneN
   cases x.gone
   ·simp; omega
   ·simp
  rw [hg]
  refine Store.mk hb9 (by simp) fun h10 hb10 m10 hs10 => ?_
  rw [max_pred (by omega)]
  have r10 : RdAt h10 h.size ⟨bl x.val ++ pairsL (l.drop (i + 1)), false⟩ := m10.blk r9 hne
  refine vTake_ok r10 fun h11 r11 m11 => ⟨_, rfl, ?_⟩
  rw [pair_take hox] at r11 ⊢
  dsimp only at r11 ⊢
  rw [strL_of]
  have hb11 := m11.blk hb10 (Ne.symm hne)
  refine Store.mk hb11 (by simp) fun h12 hb12 m12 hs12 => ?_
  have r12 : RdAt h12 h.size ⟨pairsL (l.drop (i + 1)), false⟩ := m12.blk r11 hne
  have hb12 : h12[h2.size]? = some (.cells #[.string x.key, .string x.val, .bool x.gone] t_api_Pair (0, 0)) := by simpa using hb12
  refine LoadS.mk (hget_lit hb12 rfl) ?_
  refine LoadS.mk (hget_lit hb12 rfl) ?_
  refine LoadB.mk (hget_lit hb12 rfl) ?_
  have mA : Mod (fun b => b = h.size ∨ b = h2.size) hh h12 := by
   have a1 : Mod (fun b => b = h.size ∨ b = h2.size) hh h2 := m2.weak fun b _ hb => .inl hb
   have a2 : Mod (fun b => b = h.size ∨ b = h2.size) h2 h5 := x5.mod
   exact ((((((((a1.trans a2).trans (m6.weak fun b _ hb => .inr hb)).trans (m7.weak fun b _ hb => .inr hb)).trans (m8.weak fun b _ hb => .inr hb)).trans (m9.weak fun b _ hb => .inl hb)).trans (m10.weak fun b _ hb => .inr hb)).trans (m11.weak fun b _ hb => .inl hb))).trans (m12.weak fun b _ hb => .inr hb)
  have hss : ∀ b, s.blk = some b → ¬ (b = h.size ∨ b = h2.size) := by
   intro b hb
   have hlt := oo.lt hb
   have h2le := m2.size
   rintro (rfl | rfl)
   ·exact oo.ne rd (by decide) hb
   ·omega
  refine New.append1 (E := PairE) (x := x) rfl app_pair (oo.mod mA hss) ?_ ?_ fun s' h15 o15 m15 hn15 hp15 => ?_
  ·rw [List.length_take]; omega
  ·simp only [maxLen]; rw [List.length_take]; omega
  ·rw [← ht] at o15
   have hxx : Ext h h12 := by
    refine ⟨by have := xx.size; have := mA.size; omega, fun b hb _ => ?_⟩
    have h2le := m2.size
    have := xx.size
    exact (mA.get b (by omega) (by omega)).trans (xx.get b hb (fun h => h))
   rw [wrap_succ (by omega)]
   refine hK (l.length - (i + 1)) _ _ (by omega) ⟨i + 1, s', rfl, rfl, hil, ?_, ?_, o15, ?_⟩
   ·refine m15.blk r12 fun e => ?_
    have : Own PairE t_api_Pair h12 s (l.take i) := oo.mod mA hss
    exact this.ne r12 (by decide) e
   ·refine ⟨by have := hxx.size; have := m15.size; omega, fun b hb _ => ?_⟩
    have := hxx.size
    exact (m15.get b (by omega) (fun e => by have := hs b e; omega)).trans (hxx.get b hb (fun h => h))
   ·intro b hb
    rcases hn15 b hb with e | e
    ·exact hs b e
    ·have := hxx.size; omega
 ·have hil : i = l.length := by simp at hq; omega
  have e1 : l.drop i = [] := by rw [hil]; simp
  have e2 : l.take i = l := by rw [hil]; simp
  rw [e1] at rd
  rw [e2] at oo
  refine vEnd_ok rd ⟨_, rfl, ?_⟩
  exact H s hh oo xx hs
end Go.Lf.G

/-
 A table's bytes (chapter 7): plain law: blocks of eight pairs, the foot.
-/
set_option maxRecDepth 100000
set_option linter.unusedVariables false
set_option linter.unusedSimpArgs false
namespace Go.Lf
open Go
def blkT (l : List Pr) (i : Nat) : List Pr := (l.drop (8 * i)).take 8
def nblk (l : List Pr) : Nat := (l.length + 7) / 8
def blks (l : List Pr) : List (List Pr) := (List.range (nblk l)).map (blkT l)
def keyAt (l : List Pr) (i : Nat) : ByteArray := match l[i]? with | some p => p.key | none => ⟨#[]⟩
def firstsT (l : List Pr) : List ByteArray := (List.range (nblk l)).map fun i => keyAt l (8 * i)
def footT (l : List Pr) (f : List UInt8) : List UInt8 := putV (nblk l) ++ ((firstsT l).flatMap fun k => textL (bl k)) ++ (putV l.length ++ textL f)
def framesT (l : List Pr) (f : List UInt8) : List (List UInt8) := (blks l).map pairsL ++ [footT l f]
theorem blkT_len {l : List Pr} {i : Nat} (h : i < nblk l) : 1 ≤ (blkT l i).length ∧ (blkT l i).length ≤ 8 ∧ (i + 1 < nblk l → (blkT l i).length = 8) := by
 unfold blkT nblk at *
 rw [List.length_take, List.length_drop]
 omega
theorem blkT_get {l : List Pr} {i j : Nat} (hj : j < 8) : (blkT l i)[j]? = l[8 * i + j]? := by
 unfold blkT
 rw [List.getElem?_take, if_pos hj, List.getElem?_drop]
theorem take_blk {l : List Pr} : ∀ i, l.take (8 * i) ++ blkT l i = l.take (8 * (i + 1)) := fun i => by
 unfold blkT
 rw [show 8 * (i + 1) = 8 * i + 8 by omega, List.take_add]
theorem flat_blks (l : List Pr) : ∀ n, ((List.range n).map (blkT l)).flatten = l.take (8 * n)
 | 0 => by simp
 | n + 1 => by rw [List.range_succ, List.map_append, List.flatten_append, flat_blks l n]; simpa using take_blk n
theorem blks_flat (l : List Pr) : (blks l).flatten = l := by
 unfold blks
 rw [flat_blks, List.take_of_length_le]
 unfold nblk; omega
theorem blks_len (l : List Pr) : (blks l).length = nblk l := by simp [blks]
theorem firsts_len (l : List Pr) : (firstsT l).length = nblk l := by simp [firstsT]
theorem nblk_pos {l : List Pr} (h : l ≠ []) : 1 ≤ nblk l := by
 have := List.length_pos_iff.2 h
 unfold nblk; omega
/-- what a table's file holds -/
structure TabS (s : List UInt8) (l : List Pr) (f : List UInt8) : Prop where
 bytes : s = wraps (framesT l f)
 ne : l ≠ []
 ok : ∀ p ∈ l, PrOk p
 inc : l.Pairwise fun p q => sLt p.key q.key = true
 flen : 1 ≤ f.length ∧ f.length ≤ 8192
 has : ∀ p ∈ l, hasF f p.key = true
 many : l.length ≤ 100000
theorem pairs_len {l : List Pr} (h : ∀ p ∈ l, PrOk p) : (pairsL l).length ≤ l.length * 8276 := by
 induction l with
 | nil => simp
 | cons p l ih =>
  have h1 := (pairL_len (h p (by simp))).2
  have h2 := ih fun q hq => h q (List.mem_cons_of_mem _ hq)
  have h3 := (h p (by simp)).keyMost
  have h4 := (h p (by simp)).valMost
  simp only [pairsL, List.flatMap_cons, List.length_append, List.length_cons] at h2 ⊢
  omega
theorem blk_mem {l : List Pr} {i : Nat} {p : Pr} (h : p ∈ blkT l i) : p ∈ l := List.mem_of_mem_drop (List.mem_of_mem_take h)
theorem foot_len {s : List UInt8} {l : List Pr} {f : List UInt8} (T : TabS s l f) : (footT l f).length ≤ 1048576 := by
 have hm := T.many
 have hf := T.flen.2
 have h1 := putV_len10 (n := nblk l) (by unfold nblk; omega)
 have h2 := putV_len10 (n := l.length) (by omega)
 have h3 := putV_len10 (n := f.length) (by omega)
 have hk : ∀ k ∈ firstsT l, k.size ≤ 64 := fun k hk => by
  obtain ⟨i, _, rfl⟩ := List.mem_map.1 hk
  unfold keyAt
  split
  ·rename_i p hp
   exact (T.ok p (List.mem_of_getElem? hp)).keyMost
  ·exact Nat.zero_le _
 have h4 : ∀ ks : List ByteArray, (∀ k ∈ ks, k.size ≤ 64) → (ks.flatMap fun k => textL (bl k)).length ≤ ks.length * 65 := by
  intro ks
  induction ks with
  | nil => intro _; simp
  | cons k ks ih =>
   intro h
   have h5 := ih fun x hx => h x (List.mem_cons_of_mem _ hx)
   have h6 := h k (by simp)
   have h7 : (putV k.size).length = 1 := by rw [putV_small (by omega)]; rfl
   have h8 : (textL (bl k)).length = 1 + k.size := by
    simp only [textL, List.length_append, bl_size, h7]
   simp only [List.flatMap_cons, List.length_append, List.length_cons, h8] at h5 ⊢
   omega
 have h9 := h4 (firstsT l) hk
 rw [firsts_len] at h9
 have h10 : nblk l ≤ 12501 := by unfold nblk; omega
 have h11 : (textL f).length = (putV f.length).length + f.length := by simp [textL]
 simp only [footT, List.length_append]
 omega
theorem frames_small {s : List UInt8} {l : List Pr} {f : List UInt8} (T : TabS s l f) : ∀ r ∈ framesT l f, r.length ≤ 1048576 := fun r hr => by
 rcases List.mem_append.1 hr with hr | hr
 ·obtain ⟨b, hb, rfl⟩ := List.mem_map.1 hr
  obtain ⟨i, hi, rfl⟩ := List.mem_map.1 hb
  have h1 := pairs_len (l := blkT l i) fun p hp => T.ok p (blk_mem hp)
  have h2 := (blkT_len (List.mem_range.1 hi)).2.1
  have : (blkT l i).length * 8276 ≤ 8 * 8276 := Nat.mul_le_mul_right _ h2
  omega
 ·rw [List.mem_singleton.1 hr]; exact foot_len T
end Go.Lf

/-
 Functions that yield slices, ranged over (as L.lean has it of pairs).
-/
set_option maxRecDepth 100000
set_option linter.unusedVariables false
set_option linter.unusedSimpArgs false
namespace Go.Lf
open Go
def slV (s : Sl) : Value := .slice s.p s.len s.cap
/-- yields: what a function calls for each pair; it owns O -/
def YieldsS (A : Amb) (P : Program) (yv : Value) (l : List Sl) (J : Nat → Bool → (Nat → Prop) → Heap → Prop) : Prop :=
 ∀ i x O hh, l[i]? = some x → J i true O hh → CallV A P yv #[slV x] hh fun v h' => ∃ g O', v = .bool g ∧ (∀ b, O' b → O b ∨ hh.size ≤ b) ∧ Mod O hh h' ∧ J (i + 1) g O' h'
/-- a function value that yields l; it looks at the blocks S as they are in h0 -/
def IterS (A : Amb) (P : Program) (fv : Value) (S : Nat → Prop) (h0 : Heap) (l : List Sl) : Prop :=
 (∀ b, S b → b < h0.size) ∧ ∃ f caps, fv = .func (.func f) #[] caps ∧ (∀ yv, (callFunc f (#[] ++ #[yv] ++ caps)).calc P = some (.enter f (#[] ++ #[yv] ++ caps))) ∧
  ∀ (h : Heap), (∀ b, S b → h[b]? = h0[b]?) → ∀ yv J O, oneB yv = true → (∀ b, S b → ¬ O b) → Body h J → YieldsS A P yv l J → J 0 true O h →
   HCalls A P f (#[] ++ #[yv] ++ caps) h fun v h' => v = .tuple #[] ∧ ∃ i g O', Mod O h h' ∧ (∀ b, O' b → O b ∨ h.size ≤ b) ∧ J i g O' h' ∧ (g = true → i = l.length) ∧ i ≤ l.length
theorem IterS.weak {A : Amb} {P : Program} {fv : Value} {S S' : Nat → Prop} {h0 h1 : Heap} {l : List Sl} (it : IterS A P fv S h0 l) (hS : ∀ b, S b → S' b) (hl : ∀ b, S' b → b < h1.size) (hh : ∀ b, S b → h1[b]? = h0[b]?) : IterS A P fv S' h1 l := by
 obtain ⟨_, f, caps, e, hc, H⟩ := it
 refine ⟨hl, f, caps, e, hc, fun h hS' yv J O hy hd => H h (fun b hb => (hS' b (hS b hb)).trans (hh b hb)) yv J O hy fun b hb => hd b (hS b hb)⟩
theorem IterS.one {A : Amb} {P : Program} {fv : Value} {S : Nat → Prop} {h0 : Heap} {l : List Sl} (it : IterS A P fv S h0 l) : oneB fv = true ∧ isFn fv ∧ isNilF fv = false := by
 obtain ⟨_, f, caps, rfl, _⟩ := it
 exact ⟨rfl, by simp [isFn], rfl⟩
def argS (x : Sl) : TyA [.one .sl] := (x, ())
end Go.Lf

/-
 Functions that yield slices and touch nothing else, ranged over.
-/
set_option maxRecDepth 100000
set_option linter.unusedVariables false
set_option linter.unusedSimpArgs false
namespace Go.Lf
open Go
/-- a function value that yields l, and does nothing else; it looks at the blocks S as they are in h0 -/
def IterJ (A : Amb) (P : Program) (fv : Value) (S : Nat → Prop) (h0 : Heap) (l : List Sl) : Prop :=
 ∃ f caps, fv = .func (.func f) #[] caps ∧ (∀ yv, (callFunc f (#[] ++ #[yv] ++ caps)).calc P = some (.enter f (#[] ++ #[yv] ++ caps))) ∧
  ∀ (h : Heap) (yv : Value) (J : Nat → Bool → Heap → Prop), oneB yv = true → (∀ i g hh, J i g hh → ∀ b, S b → hh[b]? = h0[b]?) →
   (∀ i x hh, l[i]? = some x → J i true hh → CallV A P yv #[slV x] hh fun v h' => ∃ g, v = .bool g ∧ J (i + 1) g h') → J 0 true h →
   HCalls A P f (#[] ++ #[yv] ++ caps) h fun v h' => v = .tuple #[] ∧ ∃ i g, J i g h' ∧ (g = true → i = l.length) ∧ i ≤ l.length
theorem rangeJ {A : Amb} {P : Program} {fv : Value} {S : Nat → Prop} {h0 h : Heap} {l : List Sl} (it : IterJ A P fv S h0 l)
  (Inv : Nat → Heap → Prop) {body : TyA [.one .sl] → Nat → Heap → (Heap → Prop) → (Option Nat → Heap → Prop) → Prop} {kn : Heap → Prop} {kj : Option Nat → Heap → Prop}
  (hS : ∀ i hh, Inv i hh → ∀ b, S b → hh[b]? = h0[b]?)
  (stable : ∀ i hh o, Inv i hh → hh[h.size]? = some (.deferred (some [])) → (∃ o', hh[h.size + 1]? = some (.loop o')) → Inv i (hh.setIfInBounds (h.size + 1) (.loop o)))
  (init : ∀ rec, Inv 0 ((h.push (.deferred (some []))).push (.loop rec)))
  (round : ∀ i x hh rec kn' kj', l[i]? = some x → Inv i hh → hh[h.size]? = some (.deferred (some [])) → hh[h.size + 1]? = some (.loop rec) → rec.state = .ready →
   (∀ h', Inv (i + 1) h' → h'[h.size]? = some (.deferred (some [])) → h'[h.size + 1]? = some (.loop { rec with state := .busy }) → kn' h') → body (argS x) (h.size + 1) hh kn' kj')
  (fin : ∀ h', Inv l.length h' → h'[h.size]? = some (.deferred (some [])) → kn h') : RangeK A P fv [.one .sl] body h kn kj := by
 intro rec hst hpd hsz hy
 obtain ⟨f, caps, rfl, hc, H⟩ := it
 refine ⟨f, _, ?_, HCalls.mono (H ((h.push (.deferred (some []))).push (.loop rec)) (.func (.yield (h.size + 1)) #[] #[])
  (fun i g hh => Inv i hh ∧ g = true ∧ hh[h.size]? = some (.deferred (some [])) ∧ hh[h.size + 1]? = some (.loop rec)) rfl (fun i g hh hj => hS i hh hj.1) ?_ ?_) ?_⟩
 ·have hcv : (do let d ← Deferred.ofValue (.func (.func f) #[] caps) #[.func (.yield (h.size + 1)) #[] #[]]; invoke d.target d.args : Sem Next).calc P = (callFunc f (#[] ++ #[.func (.yield (h.size + 1)) #[] #[]] ++ caps)).calc P := rfl
  unfold CalcK
  rw [hcv, hc]
 ·rintro i x hh hi ⟨hI, _, hdf, hl⟩
  refine hy (argS x) hh _ hl (round i x hh rec _ _ hi hI hdf hl hst ?_)
  intro h' hI' hdf' hl'
  have hlt : h.size + 1 < h'.size := blk_lt hl'
  refine ⟨_, hl', true, rfl, stable _ _ _ hI' hdf' ⟨_, hl'⟩, rfl, ?_, ?_⟩
  ·rw [Array.getElem?_setIfInBounds_ne (by omega)]; exact hdf'
  ·rw [setObj_self hlt]; cases rec; simp at hst hpd; simp [hst, hpd]
 ·refine ⟨init rec, rfl, ?_, ?_⟩
  ·rw [Array.getElem?_push_lt (by simp)]; simp
  ·have h9 : h.size + 1 = (h.push (.deferred (some []))).size := by simp
   rw [h9]; exact Array.getElem?_push_size
 ·rintro v h2 ⟨_, i, g, ⟨hI, rfl, hdf, hl⟩, hg, hil⟩
  refine ⟨rec, hl, by simp [hst], .inl ⟨hpd, fin _ ?_ ?_⟩⟩
  ·have := hg rfl
   subst this
   exact stable _ _ _ hI hdf ⟨_, hl⟩
  ·rw [Array.getElem?_setIfInBounds_ne (by omega)]; exact hdf
end Go.Lf

/-
 Contracts: strings.Builder; slices.Chunk.
-/
set_option maxRecDepth 100000
set_option linter.unusedVariables false
set_option linter.unusedSimpArgs false
namespace Go.Lf.G
open Go
/-! ### a builder -/
def U8 (h : Heap) (c : Nat) : Prop := ∃ cs fz, h[c]? = some (.cells cs t_uint8 fz)
def Bld (B : Nat) (h : Heap) (b : Nat) (l : List UInt8) : Prop := ∀ (A : Amb) (n : Nat), Lib.IsBuilderF t_strings_Builder t_uint8 B b (Lib.byteCells l) (A.at h n)
theorem bld_any {A : Amb} {n B b : Nat} {h : Heap} {l : List UInt8} (H : Lib.IsBuilderF t_strings_Builder t_uint8 B b (Lib.byteCells l) (A.at h n)) : Bld B h b l := fun _ _ => H
theorem builder_frame {A : Amb} {h : Heap} {n B b : Nat} {w : World} (hB : B ≤ h.size) (hb : RowKit.Below B (A.at h n) w) (ho : Lib.OthersKept t_uint8 (some b) (A.at h n) w) :
  w = A.at w.heap w.drawn ∧ Mod (fun c => c = b ∨ (B ≤ c ∧ U8 h c)) h w.heap := by
 obtain ⟨h1, h2, h3, h4, h5⟩ := hb
 refine ⟨?_, ⟨h4, fun c hc hs => ?_⟩⟩
 ·cases w
  simp only [Amb.at] at h1 h2 h3 ⊢
  subst h1 h2 h3
  rfl
 ·by_cases hcB : c < B
  ·exact h5 c hcB
  ·have hg : h[c]? = some h[c] := Array.getElem?_eq_getElem hc
   have h1 := ho c h[c] hg (by intro e; exact hs (.inl (Option.some.inj e))) (fun cs fz e => hs (.inr ⟨by omega, cs, fz, by rw [hg, e]⟩))
   rw [h1]; exact hg.symm
theorem Bld.mod {B b : Nat} {h h' : Heap} {l : List UInt8} {S : Nat → Prop} (H : Bld B h b l) (m : Mod S h h') (hb : ¬ S b) (hu : ∀ c, B ≤ c → U8 h c → ¬ S c) : Bld B h' b l := by
 intro A n
 have at_p : ∀ p, Lib.BuilderAtF t_strings_Builder t_uint8 B b p (Lib.byteCells l) (A.at h n) → Lib.BuilderAtF t_strings_Builder t_uint8 B b p (Lib.byteCells l) (A.at h' n) := by
  rintro p ⟨h1, v, h2, ⟨h3, h4⟩, h5⟩
  refine ⟨h1, v, m.blk h2 hb, ⟨h3, ?_⟩, h5⟩
  rcases h4 with h4 | ⟨g, cap, cur, fz, e, hg, hgb, rest⟩
  ·exact .inl h4
  ·exact .inr ⟨g, cap, cur, fz, e, hg, m.blk hgb (hu g hg ⟨cur, fz, hgb⟩), rest⟩
 rcases H A n with h1 | h1
 ·exact .inl (at_p _ h1)
 ·exact .inr (at_p _ h1)
theorem Bld.ext {B b : Nat} {h h' : Heap} {l : List UInt8} (H : Bld B h b l) (m : Ext h h') : Bld B h' b l := H.mod m (fun h => h) (fun _ _ _ h => h)
theorem Bld.cell {B b : Nat} {h : Heap} {l : List UInt8} (H : Bld B h b l) (A : Amb) : ∃ cs, h[b]? = some (.cells cs t_strings_Builder (0, 0)) ∧ B ≤ b := by
 rcases H A 0 with ⟨h1, v, h2, _⟩ | ⟨h1, v, h2, _⟩ <;> exact ⟨_, h2, h1⟩
theorem bld_new {B b : Nat} {h : Heap} (hb : h[b]? = some (.cells #[.pointer none, .slice none 0 0] t_strings_Builder (0, 0))) (hB : B ≤ b) : Bld B h b [] := by
 intro A n
 exact .inl ⟨hB, _, hb, ⟨rfl, .inl ⟨rfl, rfl⟩⟩, by simp [Value.ownBlock]⟩
theorem WriteString_ok {A : Amb} {h : Heap} {B b : Nat} {l : List UInt8} {s : ByteArray} {R : Value → Heap → Prop} (hb : Bld B h b l) (hB : B ≤ h.size) (hl : l.length + s.size ≤ 1099511627776)
  (H : ∀ h', Bld B h' b (l ++ bl s) → Mod (fun c => c = b ∨ (B ≤ c ∧ U8 h c)) h h' → R (.tuple #[.int .i64 s.size, .nilIface]) h') : HCalls A P f_strings_Builder_WriteString #[ptrV b, .string s] h R := by
 intro n
 refine Calls.mono (Proofs.Any.Builder_WriteString_k Proofs.Tryz.lays166 Proofs.Tryz.extra105 B b (Lib.byteCells l) s (A.at h n) (hb A n) (by rw [Lib.byteCells_length]; omega) hB) ?_
 rintro e w' ⟨rfl, h1, h2, h3⟩
 obtain ⟨e1, m⟩ := builder_frame hB h2 h3
 refine ⟨_, rfl, w'.heap, w'.drawn, e1, H _ ?_ m⟩
 rw [Lib.strCells_eq, ← Lib.byteCells_append, e1] at h1
 exact bld_any (A := A) (n := w'.drawn) (.inr h1)
theorem BString_ok {A : Amb} {h : Heap} {B b : Nat} {l : List UInt8} {R : Value → Heap → Prop} (hb : Bld B h b l) (hB : B ≤ h.size)
  (H : ∀ h', Bld B h' b l → Mod (fun c => c = b ∨ (B ≤ c ∧ U8 h c)) h h' → R (.string (strL l)) h') : HCalls A P f_strings_Builder_String #[ptrV b] h R := by
 intro n
 refine Calls.mono (Proofs.Any.Builder_String_any_k Proofs.Tryz.lays169 Proofs.Tryz.extra105 B b l (A.at h n) (hb A n) hB) ?_
 rintro e w' ⟨rfl, h1, h2, h3⟩
 obtain ⟨e1, m⟩ := builder_frame hB h2 h3
 refine ⟨_, rfl, w'.heap, w'.drawn, e1, H _ ?_ m⟩
 rw [e1] at h1
 exact bld_any (A := A) (n := w'.drawn) h1
/-! ### chunks -/
def chunkS (s : Sl) (i : Nat) : Sl := ⟨slOff s.p (min (8 * i + 8) s.len) (8 * i) 3, min (8 * i + 8) s.len - 8 * i, min (8 * i + 8) s.len - 8 * i⟩
def chunks (s : Sl) : List Sl := (List.range ((s.len + 7) / 8)).map (chunkS s)
theorem chunks_len (s : Sl) : (chunks s).length = (s.len + 7) / 8 := by simp [chunks]
theorem chunks_get {s : Sl} {i : Nat} (h : i < (s.len + 7) / 8) : (chunks s)[i]? = some (chunkS s i) := by simp [chunks, h]
theorem View.chunk {h : Heap} {s : Sl} {l : List Pr} (v : View PairE h s l) {i : Nat} (hi : i < nblk l) : View PairE h (chunkS s i) (blkT l i) := by
 have hl := v.len
 unfold nblk at hi
 refine ⟨?_, Nat.le_refl _, fun j x hx => ?_⟩
 ·show min (8 * i + 8) s.len - 8 * i = (blkT l i).length
  unfold blkT
  rw [List.length_take, List.length_drop, hl]
  omega
 ·have hj : j < 8 := by
   have := (List.getElem?_eq_some_iff.1 hx).1
   unfold blkT at this
   rw [List.length_take] at this
   omega
  rw [blkT_get hj] at hx
  obtain ⟨a, ha, hc⟩ := v.cells _ _ hx
  have hjl := (List.getElem?_eq_some_iff.1 hx).1
  refine ⟨a.add (8 * i * 3), ?_, ?_⟩
  ·unfold chunkS slOff
   simp only [ha]
   rw [if_neg (by omega)]
   rfl
  ·rw [add_add]
   have e : 8 * i * 3 + j * PairE.w = (8 * i + j) * PairE.w := by
    show 8 * i * 3 + j * 3 = (8 * i + j) * 3
    omega
   rw [e]; exact hc
theorem chunk_end {n i : Nat} (hn : n ≤ 1099511627776) (h : 8 * i < n) : IntKind.wrap .i64 (((8 * i : Nat) : Int) + (if ((((n - ((8 * i : Nat) : Int).toNat) : Nat) : Int) : Int) < (8 : Int) then (((n - ((8 * i : Nat) : Int).toNat) : Nat) : Int) else (8 : Int))) = ((min (8 * i + 8) n : Nat) : Int) := by
 rw [Int.toNat_natCast]
 split
 ·rw [wrap_i64 (by omega) (by omega)]; omega
 ·rw [wrap_i64 (by omega) (by omega)]; omega
abbrev f_chunk1 : FuncId := f_slices_Chunk_of___api_Pair_api_Pair_1
theorem Chunk_ok {A : Amb} {h : Heap} {s : Sl} {R : Value → Heap → Prop} (hc : s.len ≤ s.cap) (hn : s.len ≤ 1099511627776)
  (H : ∀ fv h', Ext h h' → h'.size = h.size + 2 → h'[h.size]? = some (.cells #[.slice s.p s.len s.cap] t_sl_api_Pair (0, 0)) → h'[h.size + 1]? = some (.cells #[.int .i64 8] t_int (0, 0)) →
   IterJ A P fv (fun c => c = h.size ∨ c = h.size + 1) h' (chunks s) → R fv h') : HCalls A P f_slices_Chunk_of___api_Pair_api_Pair #[.slice s.p s.len s.cap, .int .i64 8] h R := by
 refine ok_slices_Chunk_of___api_Pair_api_Pair ?_
 unfold F_slices_Chunk_of___api_Pair_api_Pair
 refine New.mk fun h1 _ hb1 x1 hs1 => ?_
 refine New.mk fun h2 _ hb2 x2 hs2 => ?_
 refine Join.mk fun K hK => ?_
 refine LoadI.mk (hget_lit hb2 rfl) ?_
 refine PIf.no rfl (hK _ _ ?_)
 have hb1' := ext_cells x2 hb1
 rw [hs1] at hb2 ⊢
 refine H _ h2 (x1.trans x2) (by omega) hb1' hb2 ⟨f_chunk1, #[ptrV h.size, ptrV (h.size + 1)], rfl, fun yv => by kernel_rfl, ?_⟩
 intro h0 yv J hy hJ hyield j0
 refine ok_slices_Chunk_of___api_Pair_api_Pair_1 ?_
 unfold F_slices_Chunk_of___api_Pair_api_Pair_1
 refine Loop.rule (fun m x hh => ∃ i : Nat, x = (((8 * i : Nat) : Int), ()) ∧ m = (s.len + 7) / 8 - i ∧ i ≤ (s.len + 7) / 8 ∧ J i true hh) ?_ ⟨0, rfl, rfl, by omega, j0⟩
 rintro K m _ hh ⟨i, rfl, rfl, hi, hj⟩ hK
 have hA : hh[h.size]? = some (.cells #[.slice s.p s.len s.cap] t_sl_api_Pair (0, 0)) := (hJ _ _ _ hj _ (.inl rfl)).trans hb1'
 have hB : hh[h.size + 1]? = some (.cells #[.int .i64 8] t_int (0, 0)) := (hJ _ _ _ hj _ (.inr rfl)).trans hb2
 refine atI (LoadL.mk (hget_lit hA rfl) ?_)
 dsimp only
 refine PIf.intro (fun hq => ?_) (fun hq => ?_)
 ·have hil : 8 * i < s.len := by simp at hq; omega
  refine atI (LoadI.mk (hget_lit hB rfl) ?_)
  refine atI (LoadL.mk (hget_lit hA rfl) ⟨by omega, ?_⟩)
  refine atI (LoadL.mk (hget_lit hA rfl) ?_)
  rw [chunk_end hn hil, Int.toNat_natCast, Int.toNat_natCast]
  refine ⟨by omega, by omega, by omega, ?_⟩
  have hc := chunks_get (s := s) (i := i) (by omega)
  have hy1 := hyield i _ hh hc hj
  simp only [slV, chunkS] at hy1
  refine CallV.mono hy1 ?_
  rintro v h' ⟨g, rfl, hj'⟩
  refine ⟨g, rfl, ?_⟩
  cases g with
  | false => exact PIf.yes rfl ⟨rfl, i + 1, false, hj', (fun h => by cases h), by rw [chunks_len]; omega⟩
  | true =>
   refine PIf.no rfl (atI ?_)
   have hB' : h'[h.size + 1]? = some (.cells #[.int .i64 8] t_int (0, 0)) := (hJ _ _ _ hj' _ (.inr rfl)).trans hb2
   refine LoadI.mk (hget_lit hB' rfl) ?_
   have e : IntKind.wrap .i64 (((8 * i : Nat) : Int) + (8 : Int)) = ((8 * (i + 1) : Nat) : Int) := by
    rw [wrap_i64 (by omega) (by omega)]; omega
   rw [e]
   exact hK ((s.len + 7) / 8 - (i + 1)) _ _ (by omega) ⟨i + 1, rfl, rfl, by omega, hj'⟩
 ·have hil : s.len ≤ 8 * i := by simp at hq; omega
  have : i = (s.len + 7) / 8 := by omega
  exact ⟨rfl, i, true, hj, fun _ => by rw [chunks_len]; exact this, by rw [chunks_len]; omega⟩
end Go.Lf.G

/-
 Contract: a table is built.
-/
set_option maxRecDepth 100000
set_option linter.unusedVariables false
set_option linter.unusedSimpArgs false
namespace Go.Lf.G
open Go
theorem app_strs : appB P t_sl_string t_string StrE.w 16 = true := by kernel_rfl
/-! ### what stands while the groups are gone through -/
structure BS (h1 : Heap) (B : Nat) (E : Nat → Obj → Prop) (out : List UInt8) (kl : List ByteArray) (ix : List UInt8) (n : Nat) (hh : Heap) : Prop where
 bld : Bld B hh B out
 keys : ∃ ks : Sl, hh[B + 1]? = some (.cells #[.slice ks.p ks.len ks.cap] t_sl_string (0, 0)) ∧ Own StrE t_string hh ks kl ∧ ∀ c, ks.blk = some c → B + 3 < c
 ix : hh[B + 2]? = some (.cells #[.string (strL ix)] t_string (0, 0))
 cnt : hh[B + 3]? = some (.cells #[.int .i64 (n : Int)] t_int (0, 0))
 fix : ∀ c o, E c o → hh[c]? = some o
 old : Mod (fun c => B ≤ c) h1 hh
structure EOk (B : Nat) (E : Nat → Obj → Prop) : Prop where
 u8 : ∀ c o, E c o → ∀ cs fz, o ≠ .cells cs t_uint8 fz
 str : ∀ c o, E c o → ∀ cs fz, o ≠ .cells cs t_string fz
 lt : ∀ c o, E c o → B + 3 < c
theorem u8_ne {h : Heap} {c : Nat} {o : Obj} (hc : h[c]? = some o) (ho : ∀ cs fz, o ≠ .cells cs t_uint8 fz) : ¬ U8 h c := by
 rintro ⟨cs, fz, e⟩
 rw [hc] at e
 exact ho cs fz (Option.some.inj e)
theorem cells_ne {cs : Array Value} {T T' : TypeId} {fr : Nat × Nat} (h : T ≠ T') : ∀ cs' fz, (Obj.cells cs T fr) ≠ .cells cs' T' fz := fun cs' fz e => by injection e with _ e _; exact h e
theorem own_ne8 {h : Heap} {ks : Sl} {kl : List ByteArray} (o : Own StrE t_string h ks kl) {c : Nat} (hu : U8 h c) : ks.blk ≠ some c := by
 obtain ⟨cs, fz, e⟩ := hu
 exact o.ne e (by decide)
theorem BS.ext {h1 hh h' : Heap} {B : Nat} {E : Nat → Obj → Prop} {out : List UInt8} {kl : List ByteArray} {ix : List UInt8} {n : Nat} (b : BS h1 B E out kl ix n hh) (x : Ext hh h') : BS h1 B E out kl ix n h' := by
 obtain ⟨ks, e1, e2, e3⟩ := b.keys
 exact ⟨b.bld.ext x, ⟨ks, ext_cells x e1, e2.ext x, e3⟩, ext_cells x b.ix, ext_cells x b.cnt, fun c o hc => x.blk (b.fix c o hc) (fun h => h), b.old.trans x.mod⟩
theorem BS.write {h1 hh h' : Heap} {B : Nat} {E : Nat → Obj → Prop} {out out' : List UInt8} {kl : List ByteArray} {ix : List UInt8} {n : Nat} (ok : EOk B E) (b : BS h1 B E out kl ix n hh) (hb : Bld B h' B out')
  (m : Mod (fun c => c = B ∨ (B ≤ c ∧ U8 hh c)) hh h') : BS h1 B E out' kl ix n h' := by
 obtain ⟨ks, e1, e2, e3⟩ := b.keys
 have keep : ∀ {c : Nat} {o : Obj}, hh[c]? = some o → c ≠ B → (∀ cs fz, o ≠ .cells cs t_uint8 fz) → h'[c]? = some o := fun hc hne ho => m.blk hc (fun h => h.elim hne (fun h => u8_ne hc ho h.2))
 refine ⟨hb, ⟨ks, keep e1 (by omega) (cells_ne (by decide)), e2.mod m (fun c hc h => ?_), e3⟩, keep b.ix (by omega) (cells_ne (by decide)), keep b.cnt (by omega) (cells_ne (by decide)), fun c o hc => keep (b.fix c o hc) (by have := ok.lt c o hc; omega) (ok.u8 c o hc), b.old.trans (m.weak fun c _ hc => by rcases hc with h | h <;> omega)⟩
 rcases h with h | h
 ·have := e3 c hc; omega
 ·exact own_ne8 e2 h.2 hc
theorem BS.key {h1 hh h' : Heap} {B : Nat} {E : Nat → Obj → Prop} {out : List UInt8} {kl kl' : List ByteArray} {ix : List UInt8} {n : Nat} (ok : EOk B E) (b : BS h1 B E out kl ix n hh) {ks ks' : Sl} (e1 : hh[B + 1]? = some (.cells #[.slice ks.p ks.len ks.cap] t_sl_string (0, 0)))
  (e2 : Own StrE t_string hh ks kl) (e3 : ∀ c, ks.blk = some c → B + 3 < c) (m : Mod (fun c => ks.blk = some c ∨ c = B + 1) hh h') (e1' : h'[B + 1]? = some (.cells #[.slice ks'.p ks'.len ks'.cap] t_sl_string (0, 0)))
  (e2' : Own StrE t_string h' ks' kl') (e3' : ∀ c, ks'.blk = some c → B + 3 < c) : BS h1 B E out kl' ix n h' := by
 have hB : ∀ c, ks.blk = some c ∨ c = B + 1 → B + 1 ≤ c := fun c hc => by
  rcases hc with h | h
  ·have := e3 c h; omega
  ·omega
 refine ⟨b.bld.mod m (fun h => by have := hB _ h; omega) (fun c hc hu h => ?_), ⟨ks', e1', e2', e3'⟩, m.blk b.ix (fun h => ?_), m.blk b.cnt (fun h => ?_), fun c o hc => m.blk (b.fix c o hc) (fun h => ?_), b.old.trans (m.weak fun c _ hc => by have := hB _ hc; omega)⟩
 ·rcases h with h | h
  ·exact own_ne8 e2 hu h
  ·subst h
   exact u8_ne e1 (cells_ne (by decide)) hu
 ·rcases h with h | h
  ·have := e3 _ h; omega
  ·omega
 ·rcases h with h | h
  ·have := e3 _ h; omega
  ·omega
 ·rcases h with h | h
  ·rcases e2.row with ⟨rfl, _⟩ | ⟨g, cur, hp, hg, _⟩
   ·simp [Sl.blk] at h
   ·simp [Sl.blk, hp] at h
    subst h
    rw [b.fix _ o hc] at hg
    exact ok.str _ o hc cur (0, 0) (Option.some.inj hg)
  ·have := ok.lt c o hc; omega
theorem BS.ixs {h1 hh h' : Heap} {B : Nat} {E : Nat → Obj → Prop} {out : List UInt8} {kl : List ByteArray} {ix ix' : List UInt8} {n : Nat} (ok : EOk B E) (b : BS h1 B E out kl ix n hh) (m : Mod (fun c => c = B + 2) hh h') (e : h'[B + 2]? = some (.cells #[.string (strL ix')] t_string (0, 0))) : BS h1 B E out kl ix' n h' := by
 obtain ⟨ks, e1, e2, e3⟩ := b.keys
 exact ⟨b.bld.mod m (fun h => by omega) (fun c hc hu h => by subst h; exact u8_ne b.ix (cells_ne (by decide)) hu), ⟨ks, m.blk e1 (by omega), e2.mod m (fun c hc h => by have := e3 c hc; omega), e3⟩, e, m.blk b.cnt (by omega),
  fun c o hc => m.blk (b.fix c o hc) (by have := ok.lt c o hc; omega), b.old.trans (m.weak fun c _ hc => by omega)⟩
theorem BS.cnts {h1 hh h' : Heap} {B : Nat} {E : Nat → Obj → Prop} {out : List UInt8} {kl : List ByteArray} {ix : List UInt8} {n n' : Nat} (ok : EOk B E) (b : BS h1 B E out kl ix n hh) (m : Mod (fun c => c = B + 3) hh h') (e : h'[B + 3]? = some (.cells #[.int .i64 (n' : Int)] t_int (0, 0))) : BS h1 B E out kl ix n' h' := by
 obtain ⟨ks, e1, e2, e3⟩ := b.keys
 exact ⟨b.bld.mod m (fun h => by omega) (fun c hc hu h => by subst h; exact u8_ne b.cnt (cells_ne (by decide)) hu), ⟨ks, m.blk e1 (by omega), e2.mod m (fun c hc h => by have := e3 c hc; omega), e3⟩, m.blk b.ix (by omega), e,
  fun c o hc => m.blk (b.fix c o hc) (by have := ok.lt c o hc; omega), b.old.trans (m.weak fun c _ hc => by omega)⟩
theorem BS.lp {h1 hh : Heap} {B d : Nat} {E : Nat → Obj → Prop} {out : List UInt8} {kl : List ByteArray} {ix : List UInt8} {n : Nat} (b : BS h1 B E out kl ix n hh) (hd : B + 3 < d) (hne : ∀ o, ¬ E d o) {o' : Go.Loop} (hl : hh[d]? = some (.loop o')) (o : Go.Loop) : BS h1 B E out kl ix n (hh.setIfInBounds d (.loop o)) := by
 obtain ⟨ks, e1, e2, e3⟩ := b.keys
 have m : Mod (fun c => c = d) hh (hh.setIfInBounds d (.loop o)) := Mod.setObj rfl
 refine ⟨b.bld.mod m (fun h => by omega) (fun c hc hu h => by subst h; exact u8_ne hl (fun _ _ e => by cases e) hu), ⟨ks, m.blk e1 (by omega), e2.mod m (fun c hc h => ?_), e3⟩, m.blk b.ix (by omega), m.blk b.cnt (by omega),
  fun c o hc => m.blk (b.fix c o hc) (fun h => by subst h; exact hne _ hc), b.old.trans (m.weak fun c _ hc => by omega)⟩
 subst h
 rcases e2.row with ⟨rfl, _⟩ | ⟨g, cur, hp, hg, _⟩
 ·simp [Sl.blk] at hc
 ·simp [Sl.blk, hp] at hc
  subst hc
  rw [hl] at hg
  cases hg
end Go.Lf.G

