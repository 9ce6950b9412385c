/-
 Contracts: what lives; the first ones.
-/
import Derived.Test.YtdmlhpjdmgaggaaGreatDoorLfX2ToM2
set_option linter.unusedVariables false
set_option linter.unusedSimpArgs false
set_option maxRecDepth 100000
namespace Go.Lf.G.M
open Go Go.Lf Go.Lf.G
def Bo (l : List Pr) : List Pr := l.filter fun x => !x.gone
theorem Px {α : Type} {p : α → Bool} : ∀ {l : List α} {i : Nat} {x : α}, l[i]? = some x → p x = true → (l.filter p)[((l.take i).filter p).length]? = some x
 | [], i, x, h, _ => by simp at h
 | y :: l, 0, x, h, hp => by simp at h; subst h; simp [hp]
 | y :: l, i + 1, x, h, hp => by
  have ih := Px (p := p) (l := l) (i := i) (by simpa using h) hp
  rw [List.take_succ_cons, List.filter_cons, List.filter_cons]
  split
  ·simpa using ih
  ·exact ih
theorem Yo {α : Type} {p : α → Bool} (l : List α) (i : Nat) : ((l.take i).filter p).length ≤ (l.filter p).length := ((List.take_sublist i l).filter p).length_le
theorem AHU {A : Amb} {h0 : Heap} {b : Nat} {T : TypeId} {fr : Nat × Nat} {fv : Value} {S : Nat → Prop} {l : List Pr} (hb : h0[b]? = some (.cells #[fv] T fr)) (it : (fv = .nilFunc ∧ l = [] ∧ ∀ c, ¬ S c) ∨ Cw A P fv S h0 l) :
  Cw A P (.func (.func H7) #[] #[.pointer (some ⟨b, 0, none⟩)]) (fun c => S c ∨ c = b) h0 (Bo l) := by
 have hbl := Am hb
 refine ⟨?_, _, _, rfl, fun yv => by kernel_rfl, fun h hS yv J O hy hd hB hY hJ => ?_⟩
 ·rintro c (hc | rfl)
  ·rcases it with it | it
   ·exact absurd hc (it.2.2 c)
   ·exact it.1 c hc
  ·exact hbl
 rw [AKn]
 refine Vg ?_
 unfold KS
 refine Sa.mk hy (New.mk fun h1 _ hb1 hx hsz => ?_)
 have hbh : h1[b]? = some (.cells #[fv] T fr) := by
  have e := (hS b (.inr rfl)).trans hb
  exact hx.blk e (by simp)
 refine OE.mk (AJ hbh rfl) ?_
 rcases it with ⟨rfl, rfl, _⟩ | it
 ·refine ⟨trivial, PIf.yes rfl ?_⟩
  exact ⟨rfl, 0, true, O, hx.mod, fun b hb => .inl hb, hB.stable _ _ _ _ _ hJ (hx.weak fun _ _ h => h.elim), fun _ => rfl, by simp⟩
 ·refine ⟨it.one.2.1, PIf.no it.one.2.2 ?_⟩
  refine OE.mk (AJ hbh rfl) ?_
  have hOlt := hB.wf _ _ _ _ hJ
  have hSlt : ∀ b, S b → b < h.size := fun b hb => by
   have := hS b (.inl hb)
   rw [Array.getElem?_eq_getElem (it.1 b hb)] at this
   exact Am this
  have hJ1 := hB.stable _ _ _ _ _ hJ (hx.weak (S' := fun b => ¬ O b ∧ h.size ≤ b) fun _ _ h => h.elim)
  refine RL it (fun c hc => (hx.get c (hSlt c hc) (by simp)).trans (hS c (.inl hc)))
   (fun i c O1 hh => hh[h.size]? = some (.cells #[yv] JP (0, 0)) ∧ ¬ O1 h.size ∧ match c with
    | none => J (Bo (l.take i)).length true O1 hh
    | some j => j = none ∧ ∃ k, k ≤ (Bo l).length ∧ J k false O1 hh)
   O (fun c hc => hd c (.inl hc)) ?_ ?_ ?_ ?_ ?_ ?_
  ·rintro i c O1 hh ⟨_, _, hm⟩
   cases c
   ·exact hB.wf _ _ _ _ hm
   ·obtain ⟨_, k, _, hj⟩ := hm
    exact hB.wf _ _ _ _ hj
  ·rintro i c O1 hh h' ⟨e, hn, hm⟩ m
   refine ⟨m.blk e (fun h => by omega), hn, ?_⟩
   have m' : Mod (fun b => ¬ O1 b ∧ h.size ≤ b) hh h' := m.weak fun b _ hb => ⟨hb.1, by omega⟩
   cases c
   ·exact hB.stable _ _ _ _ _ hm m'
   ·obtain ⟨hj, k, hk, hj2⟩ := hm
    exact ⟨hj, k, hk, hB.stable _ _ _ _ _ hj2 m'⟩
  ·exact ⟨hb1, fun h => by have := hOlt _ h; omega, hJ1⟩
  ·rintro i x O1 hh rec kn' kj' hi ⟨e, hn, hm⟩ nO hsz1 hrec hst hkn hkj
   refine New.pair fun b1 h7 eb hb7 x7 hs7 => ?_
   refine ⟨rec, x7.blk hrec (by simp), hst, ?_⟩
   generalize hg : h7.setIfInBounds (h1.size + 1) (.loop { rec with state := .busy }) = h8
   have m8 : Mod (fun b => b = h1.size + 1) h7 h8 := hg ▸ Mod.setObj rfl
   have hl8 : h8[h1.size + 1]? = some (.loop { rec with state := .busy }) := by rw [← hg]; exact Di (by omega)
   have hb8 := m8.blk hb7 (by omega)
   have e8 := m8.blk (x7.blk e (by simp)) (by omega)
   have m08 : Mod (fun b => b = h1.size + 1) hh h8 := (Ext.mod x7).trans m8
   have hj8 : J (Bo (l.take i)).length true O1 h8 := hB.stable _ _ _ _ _ hm (m08.weak fun b _ hb => by subst hb; exact ⟨nO, by omega⟩)
   have htk : Bo (l.take (i + 1)) = Bo (l.take i) ++ Bo [x] := by
    rw [List.take_add_one, hi]; simp [Bo]
   refine Join.mk fun K hK => ?_
   refine AY.mk (AB hb8 rfl) ?_
   refine PIf.intro (fun hq => ?_) (fun hq => ?_)
   ·have hq : (!x.gone) = true := hq
    refine OE.mk (AJ e8 rfl) ?_
    refine AC.mk (AJ hb8 rfl) (AC.mk (AB hb8 rfl) (AY.mk (AB hb8 rfl) ?_))
    refine Eh.mono (hY _ _ O1 h8 (Px (p := fun x : Pr => !x.gone) hi hq) hj8) ?_
    rintro _ h9 ⟨g, O2, rfl, hsub2, m9, hj9⟩
    refine ⟨g, rfl, hK _ _ ?_⟩
    have hle := Yo (p := fun x : Pr => !x.gone) l (i + 1)
    have hlen : (Bo (l.take (i + 1))).length = (Bo (l.take i)).length + 1 := by
     rw [htk]; simp only [Bo, List.length_append]; simp [hq]
    have e9 := m9.blk e8 hn
    have hn9 : ¬ O2 h.size := fun hc => (hsub2 _ hc).elim hn fun h => by have := m8.size; omega
    have mr : Mod (fun b => O1 b ∨ b = h1.size + 1) hh h9 := (m08.weak fun b _ hb => .inr hb).trans (m9.weak fun b _ hb => .inl hb)
    have hs2 : ∀ b, O2 b → O1 b ∨ hh.size ≤ b := fun b hb => (hsub2 b hb).elim .inl fun h => .inr (by have := m8.size; omega)
    refine PIf.intro (fun hg => hkj none h9 ?_) (fun hg => hkn h9 ?_)
    ·have hg : g = false := by simpa using hg
     subst hg
     exact ⟨O2, hs2, mr, m9.blk hl8 nO, e9, hn9, rfl, _, by have := hlen; unfold Bo at *; omega, hj9⟩
    ·have hg : g = true := by simpa using hg
     subst hg
     exact ⟨O2, hs2, mr, m9.blk hl8 nO, e9, hn9, by show J _ _ _ _; rw [hlen]; exact hj9⟩
   ·have hq : (!x.gone) = false := hq
    refine hK _ _ (PIf.no rfl (hkn h8 ?_))
    refine ⟨O1, fun b hb => .inl hb, m08.weak fun b _ hb => .inr hb, hl8, e8, hn, ?_⟩
    show J _ _ _ _
    have : Bo [x] = [] := by simp at hq; simp [Bo, hq]
    rw [htk, this, List.append_nil]
    exact hj8
  ·rintro O' h' ⟨e, hn, hm⟩ md n1 hsub hdf
   refine ⟨hdf, rfl, (Bo l).length, true, O', ?_, ?_, ?_, fun _ => rfl, Nat.le_refl _⟩
   ·exact (hx.mod.trans md).then (Mod.setObj (.inr (by omega)))
   ·intro b hb; exact (hsub b hb).elim .inl fun h => .inr (by omega)
   ·rw [List.take_length] at hm
    exact hB.stable _ _ _ _ _ hm (Mod.setObj ⟨n1, by omega⟩)
  ·rintro i j O' h' ⟨e, hn, rfl, k, hk, hm⟩ hi md n1 hsub hdf
   refine ⟨hdf, rfl, k, false, O', ?_, ?_, ?_, (fun h => by cases h), hk⟩
   ·exact (hx.mod.trans md).then (Mod.setObj (.inr (by omega)))
   ·intro b hb; exact (hsub b hb).elim .inl fun h => .inr (by omega)
   ·exact hB.stable _ _ _ _ _ hm (Mod.setObj ⟨n1, by omega⟩)
theorem AF2 {A : Amb} {h : Heap} {fv : Value} {S : Nat → Prop} {l : List Pr} {R : Value → Heap → Prop} (it : (fv = .nilFunc ∧ l = [] ∧ ∀ c, ¬ S c) ∨ Cw A P fv S h l)
  (H : ∀ fv' h', Cw A P fv' (fun c => S c ∨ c = h.size) h' (Bo l) → Ext h h' → h'.size = h.size + 1 → R fv' h') : AA A P H9 #[fv] h R := by
 refine ZG ?_
 unfold NW
 refine Sa.mk ?_ (New.mk fun h1 _ hb1 hx hsz => ?_)
 ·rcases it with it | it
  ·rw [it.1]; rfl
  ·exact it.one.1
 ·refine H _ h1 (AHU hb1 ?_) hx hsz
  rcases it with it | it
  ·exact .inl it
  ·exact .inr (it.weak (fun _ => id) (fun b hb => by have := it.1 b hb; omega) (fun b hb => hx.get b (it.1 b hb) (by simp)))
def Lb (vto : ByteArray) (x : Pr) : Bool := decide (vto = ⟨#[]⟩) || sLt x.key vto
def K9 (vto : ByteArray) (most : Int) (l : List Pr) : List Pr := (l.takeWhile (Lb vto)).take most.toNat
theorem Vn {α : Type} {p : α → Bool} : ∀ {l : List α} {i : Nat}, i ≤ (l.takeWhile p).length → (l.takeWhile p).take i = l.take i
 | [], i, _ => by simp
 | y :: l, 0, _ => by simp
 | y :: l, i + 1, h => by
  rw [List.takeWhile_cons] at h ⊢
  split at h
  ·rename_i hy
   simp only [hy, if_true, List.take_succ_cons]
   rw [Vn (by simpa using h)]
  ·simp at h
end Go.Lf.G.M

/-
 Contracts: several sequences as one.
-/
set_option maxRecDepth 100000
namespace Go.Lf.G.M
open Go Go.Lf Go.Lf.G
theorem MJ : ∀ (a : List UInt8), Op.bytesLess a a = false
 | [] => rfl
 | a :: x => by simp [Op.bytesLess, MJ x]
theorem WX : ∀ (a b : List UInt8), Op.bytesLess a b = false → Op.bytesLess b a = false → a = b
 | [], [], _, _ => rfl
 | [], _ :: _, h, _ => by simp [Op.bytesLess] at h
 | _ :: _, [], _, h => by simp [Op.bytesLess] at h
 | a :: x, b :: y, h1, h2 => by
  simp only [Op.bytesLess, Bool.or_eq_false_iff, Bool.and_eq_false_iff, decide_eq_false_iff_not, beq_eq_false_iff_ne] at h1 h2
  have hab : a = b := by
   have h3 := h1.1; have h4 := h2.1
   exact UInt8.le_antisymm (UInt8.not_lt.1 h4) (UInt8.not_lt.1 h3)
  subst hab
  rw [WX x y (h1.2.resolve_left (by simp)) (h2.2.resolve_left (by simp))]
theorem Ol : ∀ (a b c : List UInt8), Op.bytesLess a b = true → Op.bytesLess b c = true → Op.bytesLess a c = true
 | _, [], _, h, _ => by simp [Op.bytesLess] at h
 | _, _ :: _, [], _, h => by simp [Op.bytesLess] at h
 | [], _ :: _, _ :: _, _, _ => by simp [Op.bytesLess]
 | a :: x, b :: y, c :: z, h1, h2 => by
  simp only [Op.bytesLess, Bool.or_eq_true, Bool.and_eq_true, decide_eq_true_eq, beq_iff_eq] at h1 h2 ⊢
  rcases h1 with h1 | ⟨rfl, h1⟩
  ·rcases h2 with h2 | ⟨rfl, h2⟩
   ·exact .inl (UInt8.lt_trans h1 h2)
   ·exact .inl h1
  ·rcases h2 with h2 | ⟨rfl, h2⟩
   ·exact .inl h2
   ·exact .inr ⟨rfl, Ol x y z h1 h2⟩
theorem BX (a : ByteArray) : sLt a a = false := MJ _
theorem CP {a b c : ByteArray} (h1 : sLt a b = true) (h2 : sLt b c = true) : sLt a c = true := Ol _ _ _ h1 h2
theorem J7 {a b : ByteArray} (h1 : sLt a b = false) (h2 : sLt b a = false) : a = b := by
 have := WX _ _ h1 h2
 have h3 : sEq a b = true := by simp [sEq, this]
 rw [BR] at h3
 simpa using h3
theorem Mi {a b : ByteArray} (h1 : sLt a b = true) : sLt b a = false := by
 cases h : sLt b a
 ·rfl
 ·have := CP h1 h; rw [BX] at this; cases this
theorem ABr {a b c : ByteArray} (h1 : sLt a b = true) (h2 : sLt c b = false) : sLt a c = true := by
 cases h : sLt b c
 ·rw [J7 h2 h]; exact h1
 ·exact CP h1 h
theorem Tk {a b c : ByteArray} (h1 : sLt b a = false) (h2 : sLt c b = false) : sLt c a = false := by
 cases h : sLt c a
 ·rfl
 ·have := ABr h h1; rw [this] at h2; cases h2
def upto (p q : Pr) : Bool := sLt q.key p.key || sEq q.key p.key
def Fx (p : Pr) (l : List Pr) : List Pr := l.dropWhile (upto p)
inductive I5 : List (List Pr) → List Pr → Prop
 | done {ls : List (List Pr)} (h : ∀ l, l ∈ ls → l = []) : I5 ls []
 | step {ls : List (List Pr)} {k : Nat} {p : Pr} {t out : List Pr} (hk : ls[k]? = some (p :: t))
   (hmin : ∀ j q u, ls[j]? = some (q :: u) → sLt q.key p.key = false ∧ (j < k → sLt p.key q.key = true)) (hm : I5 (ls.map (Fx p)) out) : I5 ls (p :: out)
theorem I5.nil_inv {ls : List (List Pr)} {out : List Pr} (m : I5 ls out) (h : ∀ l, l ∈ ls → l = []) : out = [] := by
 cases m with
 | done _ => rfl
 | step hk hmin hm => have := h _ (List.mem_of_getElem? hk); cases this
theorem I5.step_inv {ls : List (List Pr)} {out : List Pr} (m : I5 ls out) {k : Nat} {p : Pr} {t : List Pr} (hk : ls[k]? = some (p :: t))
  (hmin : ∀ j q u, ls[j]? = some (q :: u) → sLt q.key p.key = false ∧ (j < k → sLt p.key q.key = true)) : ∃ out', out = p :: out' ∧ I5 (ls.map (Fx p)) out' := by
 cases m with
 | done h => have := h _ (List.mem_of_getElem? hk); cases this
 | @step _ k2 p2 t2 out2 hk2 hmin2 hm2 =>
  have e : k = k2 := by
   rcases Nat.lt_trichotomy k k2 with h | h | h
   ·have h1 := (hmin2 _ _ _ hk).2 h
    rw [(hmin _ _ _ hk2).1] at h1; cases h1
   ·exact h
   ·have h1 := (hmin _ _ _ hk2).2 h
    rw [(hmin2 _ _ _ hk).1] at h1; cases h1
  subst e
  rw [hk] at hk2
  cases hk2
  exact ⟨out2, rfl, hm2⟩
theorem AB1 {α : Type} : ∀ (cs : List α) (n i : Nat) (v : α), (cs.set i v).take n = (cs.take n).set i v
 | [], n, i, v => by simp
 | c :: cs, 0, i, v => by simp
 | c :: cs, n + 1, 0, v => by simp
 | c :: cs, n + 1, i + 1, v => by simp [AB1 cs n i v]
end Go.Lf.G.M
namespace Go.Lf
open G
theorem Own.storeM {T : TypeId} {h : Heap} {s : Sl} {l : List Sl} (o : Own SlE T h s l) {i : Nat} (hi : i < l.length) {x : Sl} {K : Heap → Prop} {a : Addr} (ha : s.p = some a)
  (H : ∀ h', Own SlE T h' s (l.set i x) → Mod (fun b => s.blk = some b) h h' → h'.size = h.size → K h') : Store h (a.add (i * 1)) (.slice x.p x.len x.cap) K := by
 rcases o.row with ⟨rfl, _⟩ | ⟨g, cur, hp, hg, h1, h2, h3, h4⟩
 ·simp at ha
 ·rw [hp] at ha; cases ha
  rw [Bw, Nat.zero_add, Nat.mul_one]
  have hw : SlE.w = 1 := rfl
  rw [hw, Nat.mul_one] at h3 h4
  have hlen := o.len
  refine Store.mk hg (by omega) fun h' hb m hsz => H h' ⟨by simpa using o.len, .inr ⟨g, _, hp, hb, h1, h2, by simp [h3, hw], ?_⟩⟩ (m.weak fun b _ hb => by simp [Sl.blk, hp, hb]) hsz
  rw [hw, Nat.mul_one, Array.toList_setIfInBounds, Go.Lf.G.M.AB1, h4]
  have e : ∀ l : List Sl, l.flatMap SlE.enc = l.map (fun s => Value.slice s.p s.len s.cap) := fun l => by
   induction l with
   | nil => rfl
   | cons y l ih => rw [List.flatMap_cons, ih]; rfl
  rw [e, e, List.map_set]
end Go.Lf
namespace Go.Lf.G.M
open Go Go.Lf Go.Lf.G
structure Ux (lo : Nat) (h : Heap) (O : Nat → Prop) (t : Sl) (sls : List Sl) (ls : List (List Pr)) : Prop where
 len : sls.length = ls.length
 row : ∀ (j : Nat) (sl : Sl) (l : List Pr), sls[j]? = some sl → ls[j]? = some l → View Af h sl l ∧ l.length ≤ 1099511627776 ∧ ∀ c, sl.blk = some c → lo ≤ c ∧ c < h.size ∧ t.blk ≠ some c ∧ ¬ O c
theorem Ux.mod {lo : Nat} {h h' : Heap} {O O' : Nat → Prop} {t t' : Sl} {sls : List Sl} {ls : List (List Pr)} {S : Nat → Prop} (r : Ux lo h O t sls ls) (m : Mod S h h') (hS : ∀ c, lo ≤ c → c < h.size → t.blk ≠ some c → ¬ O c → ¬ S c)
  (ht : ∀ c, c < h.size → t'.blk = some c → t.blk = some c) (hO : ∀ c, c < h.size → O' c → O c) : Ux lo h' O' t' sls ls :=
 ⟨r.len, fun j sl l h1 h2 => by
  obtain ⟨v, hl, hc⟩ := r.row j sl l h1 h2
  refine ⟨v.mod m fun c hb => hS c (hc c hb).1 (hc c hb).2.1 (hc c hb).2.2.1 (hc c hb).2.2.2, hl, fun c hb => ?_⟩
  obtain ⟨h1, h2, h3, h4⟩ := hc c hb
  have := m.size
  exact ⟨h1, by omega, fun e => h3 (ht c h2 e), fun e => h4 (hO c h2 e)⟩⟩
end Go.Lf.G.M
namespace Go.Lf
open G
theorem View.val {h : Heap} {s : Sl} {vs : List ZC} (v : View AD4 h s vs) {i : Nat} {x : ZC} (hi : vs[i]? = some x) : ∃ a, s.p = some a ∧ hget h (a.add (i * 1)) = some x.v := by
 obtain ⟨a, ha, hc⟩ := v.cells i x hi
 exact ⟨a, ha, hc.val⟩
end Go.Lf
namespace Go.Lf.G.M
open Go Go.Lf Go.Lf.G
theorem AJ0 {A : Amb} {h0 : Heap} {b : Nat} {T : TypeId} {fr : Nat × Nat} {s : Sl} {S : Nat → Prop} {vs : List ZC} {os : List (Option (List Pr))} {out : List Pr} (hb : h0[b]? = some (.cells #[.slice s.p s.len s.cap] T fr)) (v : View AD4 h0 s vs)
  (hl : vs.length ≤ 1099511627776) (hos : os.length = vs.length)
  (it : ∀ (i : Nat) (v : ZC), vs[i]? = some v → (v.v = .nilFunc ∧ os[i]? = some none) ∨ ∃ l, os[i]? = some (some l) ∧ Cw A P v.v S h0 l ∧ l.length ≤ 1099511627776) (hm : I5 (os.filterMap id) out) (hSlt : ∀ b, S b → b < h0.size) :
  Cw A P (.func (.func JF) #[] #[.pointer (some ⟨b, 0, none⟩)]) (fun c => S c ∨ (c < h0.size ∧ (c = b ∨ s.blk = some c))) h0 out := by
 have hbl := Am hb
 refine ⟨?_, _, _, rfl, fun yv => by kernel_rfl, fun h hS yv J O hy hd hB hY hJ => ?_⟩
 ·rintro c (hc | hc)
  ·exact hSlt c hc
  ·exact hc.1
 rw [AKn]
 refine XV ?_
 unfold LX
 have hOlt := hB.wf _ _ _ _ hJ
 have hbh : h[b]? = some (.cells #[.slice s.p s.len s.cap] T fr) := (hS b (.inr ⟨hbl, .inl rfl⟩)).trans hb
 have hvh : ∀ i x, vs[i]? = some x → ∃ a, s.p = some a ∧ hget h (a.add (i * 1)) = some x.v := fun i x hi => by
  obtain ⟨a, ha, hg⟩ := v.val hi
  refine ⟨a, ha, ?_⟩
  have hlt := Sv hg
  rw [add_block] at hlt
  have e := hS _ (.inr ⟨hlt, .inr (by simp [Sl.blk, ha])⟩)
  exact (KM (by rw [add_block]; exact e)).trans hg
 have hSh : ∀ c, S c → c < h.size := fun c hc => by
  have := hS c (.inl hc)
  rw [Array.getElem?_eq_getElem (hSlt c hc)] at this
  exact Am this
 refine AQ.mk (AJ hbh rfl) ?_
 refine Loop.rule (fun m x hh => ∃ (i : Nat) (t : Sl) (sls : List Sl), x = (t, (i : Int), ()) ∧ m = vs.length - i ∧ i ≤ vs.length ∧ Ext h hh ∧ Own SlE AP hh t sls ∧ (∀ c, t.blk = some c → h.size ≤ c) ∧ Ux h.size hh O t sls ((os.take i).filterMap id) ∧ sls.length ≤ i) ?_
  ⟨0, ⟨none, 0, 0⟩, [], rfl, rfl, by omega, Mod.refl, Own.nil, fun c hc => by simp [Sl.blk] at hc, ⟨by simp, fun j sl l h => by simp at h⟩, by simp⟩
 rintro K m _ hh ⟨i, t, sls, rfl, rfl, hi, hx, o, hbt, hr, hsl⟩ hK
 refine PIf.intro (fun hq => ?_) (fun hq => ?_)
 ·have hi' : i < vs.length := by simp [v.len] at hq; omega
  have hgi := List.getElem?_eq_getElem hi'
  refine Join.mk fun K1 hK1 => ?_
  obtain ⟨a, ha, hg⟩ := hvh i _ hgi
  refine Idx.mk ha (by rw [v.len]; exact hi') ?_
  refine OE.mk (hx.hget hg) ?_
  rcases it i _ hgi with ⟨hv, ho⟩ | ⟨l, ho, hit, hlb⟩
  ·refine ⟨by rw [hv]; trivial, PIf.no (by rw [hv]; rfl) ?_⟩
   refine hK1 _ _ (hK (vs.length - (i + 1)) _ _ (by omega) ⟨i + 1, t, sls, by rw [AR (by omega)], rfl, by omega, hx, o, hbt, ?_, by omega⟩)
   have : (os.take (i + 1)).filterMap id = (os.take i).filterMap id := by rw [List.take_add_one, ho]; simp
   rw [this]; exact hr
  ·refine ⟨hit.one.2.1, PIf.yes (by rw [hit.one.2.2]; rfl) ?_⟩
   refine Ql hit (fun c hc => (hx.get c (hSh c hc) (by simp)).trans (hS c (.inl hc))) hlb fun s3 h3 o3 hb3 x3 => ⟨s3, rfl, ?_⟩
   refine New.append1 (E := SlE) (x := s3) rfl AHs (o.ext x3) (by omega) (by simp [maxLen]; omega) fun s4 h4 o4 m4 bl4 _ => ?_
   have x04 : Ext h h4 := (hx.trans x3).then (m4.weak fun c _ hc => .inr (hbt c hc))
   refine hK1 _ _ (hK (vs.length - (i + 1)) _ _ (by omega) ⟨i + 1, s4, _, by rw [AR (by omega)], rfl, by omega, x04, o4, ?_, ?_, ?_⟩)
   ·intro c hc
    rcases bl4 c hc with h1 | h1
    ·exact hbt c h1
    ·have := hx.size; have := x3.size; omega
   ·have e : (os.take (i + 1)).filterMap id = (os.take i).filterMap id ++ [l] := by rw [List.take_add_one, ho]; simp
    rw [e]
    have r4 := (hr.mod x3 (fun c _ _ _ _ h => h) (fun c _ h => h) (fun c _ h => h)).mod (t' := s4) m4 (fun c _ _ hn _ => hn) (fun c hc h1 => (bl4 c h1).elim id fun h2 => by omega) (fun c _ h => h)
    refine ⟨by simp [r4.len], fun j sl l' h1 h2 => ?_⟩
    rcases Nat.lt_trichotomy j sls.length with hj | hj | hj
    ·rw [List.getElem?_append_left hj] at h1
     rw [List.getElem?_append_left (by rw [← r4.len]; exact hj)] at h2
     exact r4.row j sl l' h1 h2
    ·subst hj
     rw [List.getElem?_concat_length] at h1
     rw [r4.len, List.getElem?_concat_length] at h2
     cases h1; cases h2
     have hne : t.blk ≠ s3.blk ∨ s3.blk = none := by
      cases hs : s3.blk with
      | none => exact .inr rfl
      | some c =>
       refine .inl fun e => ?_
       have := o.lt e; have := hb3 c hs; omega
     refine ⟨(o3.view).mod m4 fun c hc hn => ?_, hlb, fun c hc => ⟨?_, ?_, ?_, ?_⟩⟩
     ·have := o.lt hn; have := hb3 c hc; omega
     ·have := hb3 c hc; have := hx.size; omega
     ·have := o3.lt hc; have := m4.size; omega
     ·intro h1
      have := o3.lt hc
      rcases bl4 c h1 with h2 | h2
      ·have := o.lt h2; have := hb3 c hc; omega
      ·omega
     ·intro h1; have := hOlt c h1; have := hb3 c hc; have := hx.size; omega
    ·rw [List.getElem?_eq_none (by simp; omega)] at h1; cases h1
   ·simp; omega
 ·have hi' : i = vs.length := by simp [v.len] at hq; omega
  rw [hi', ← hos, List.take_length] at hr
  have hJh := hB.stable _ _ _ _ _ hJ (hx.weak (S' := fun b => ¬ O b ∧ h.size ≤ b) fun _ _ h => h.elim)
  refine Loop.rule (fun m _ hh => ∃ (i : Nat) (O1 : Nat → Prop) (sls : List Sl) (cur : List (List Pr)) (out' : List Pr), I5 cur out' ∧ m = out'.length ∧ (∀ k, out[i + k]? = out'[k]?) ∧ i + out'.length = out.length ∧ Mod O h hh ∧ (∀ b, O1 b → O b ∨ h.size ≤ b) ∧ J i true O1 hh ∧
    Own SlE AP hh t sls ∧ (∀ c, t.blk = some c → ¬ O1 c) ∧ Ux h.size hh O1 t sls cur ∧ sls.length ≤ 1099511627776) ?_
   ⟨0, O, sls, _, out, hm, rfl, fun k => by rw [Nat.zero_add], by omega, hx.mod, fun b hb => .inl hb, hJh, o, fun c hc hn => by have := hOlt c hn; have := hbt c hc; omega, hr, by omega⟩
  clear hK hr hx o hsl hJh
  rintro K2 m _ hh ⟨i, O1, sls, cur, out', hmg, rfl, hout, hlen, hmd, hsub, hj, o, hnt, hr, hsl⟩ hK
  have hO1lt := hB.wf _ _ _ _ hj
  refine Loop.rule (fun m x h7 => ∃ (n : Nat) (bi : Int), x = (bi, (n : Int), ()) ∧ h7 = hh ∧ m = cur.length - n ∧ n ≤ cur.length ∧ ((bi = -1 ∧ ∀ j l, j < n → cur[j]? = some l → l = []) ∨
   ∃ k p u, bi = (k : Nat) ∧ k < n ∧ cur[k]? = some (p :: u) ∧ ∀ j q w, j < n → cur[j]? = some (q :: w) → sLt q.key p.key = false ∧ (j < k → sLt p.key q.key = true))) ?_
   ⟨0, -1, rfl, rfl, rfl, by omega, .inl ⟨rfl, fun j l h => by omega⟩⟩
  rintro K3 m _ h7 ⟨n, bi, rfl, hh7, rfl, hn, hbest⟩ hK3
  subst hh7
  have hlc := hr.len
  refine PIf.intro (fun hq => ?_) (fun hq => ?_)
  ·have hn' : n < cur.length := by simp [o.len] at hq; omega
   have hgn := List.getElem?_eq_getElem hn'
   have hgs := List.getElem?_eq_getElem (l := sls) (i := n) (by omega)
   obtain ⟨vn, hvb, _⟩ := hr.row n _ _ hgs hgn
   refine Join.mk fun K4 hK4 => ?_
   refine o.view.idx hgs fun a2 _ c2 => ?_
   refine AQ.mk c2.sl ?_
   refine Join.mk fun K5 hK5 => ?_
   have hkeep : ((bi = -1 ∧ ∀ j l, j < n + 1 → cur[j]? = some l → l = []) ∨
     ∃ k p u, bi = (k : Nat) ∧ k < n + 1 ∧ cur[k]? = some (p :: u) ∧ ∀ j q w, j < n + 1 → cur[j]? = some (q :: w) → sLt q.key p.key = false ∧ (j < k → sLt p.key q.key = true)) → K5 (false, ()) h7 := fun e =>
    hK5 _ _ (PIf.no rfl (hK4 _ _ (hK3 (cur.length - (n + 1)) _ _ (by omega) ⟨n + 1, bi, by rw [AR (by omega)], rfl, rfl, by omega, e⟩)))
   have hnew : (∃ k p u, (n : Int) = (k : Nat) ∧ k < n + 1 ∧ cur[k]? = some (p :: u) ∧ ∀ j q w, j < n + 1 → cur[j]? = some (q :: w) → sLt q.key p.key = false ∧ (j < k → sLt p.key q.key = true)) → K5 (true, ()) h7 := fun e =>
    hK5 _ _ (PIf.yes rfl (hK4 _ _ (hK3 (cur.length - (n + 1)) _ _ (by omega) ⟨n + 1, n, by rw [AR (by omega)], rfl, rfl, by omega, .inr e⟩)))
   refine PIf.intro (fun hq => ?_) (fun hq => ?_)
   ·cases hcn : cur[n] with
    | nil => rw [hcn] at vn; have := vn.len; simp [this] at hq
    | cons q w =>
     rw [hcn] at vn hgn
     rcases hbest with ⟨rfl, he⟩ | ⟨k, p, u, rfl, hk, hgk, hmin⟩
     ·refine PIf.yes (by simp) (hnew ⟨n, q, w, rfl, by omega, hgn, fun j q' w' hj hgj => ?_⟩)
      rcases Nat.lt_or_ge j n with h1 | h1
      ·have := he j _ h1 hgj; cases this
      ·have : j = n := by omega
       subst this
       rw [hgn] at hgj; cases hgj
       exact ⟨BX _, fun h => by omega⟩
     ·refine PIf.no (by simp) ?_
      refine vn.idx (i := 0) (x := q) rfl fun a3 _ c3 => ?_
      refine AC.mk c3.pair.1 ?_
      have hgsk := List.getElem?_eq_getElem (l := sls) (i := k) (by omega)
      obtain ⟨vk, _, _⟩ := hr.row k _ _ hgsk hgk
      refine o.view.idx hgsk fun a4 _ c4 => ?_
      refine AQ.mk c4.sl ?_
      refine vk.idx (i := 0) (x := p) rfl fun a5 _ c5 => ?_
      refine AC.mk c5.pair.1 ?_
      cases hs : sLt q.key p.key
      ·refine hkeep (.inr ⟨k, p, u, rfl, by omega, hgk, fun j q' w' hj hgj => ?_⟩)
       rcases Nat.lt_or_ge j n with h1 | h1
       ·exact hmin j q' w' h1 hgj
       ·have : j = n := by omega
        subst this
        rw [hgn] at hgj; cases hgj
        exact ⟨hs, fun h => by omega⟩
      ·refine hnew ⟨n, q, w, rfl, by omega, hgn, fun j q' w' hj hgj => ?_⟩
       rcases Nat.lt_or_ge j n with h1 | h1
       ·have h2 := (hmin j q' w' h1 hgj).1
        have h3 := ABr hs h2
        exact ⟨Mi h3, fun _ => h3⟩
       ·have : j = n := by omega
        subst this
        rw [hgn] at hgj; cases hgj
        exact ⟨BX _, fun h => by omega⟩
   ·have hcn : cur[n] = [] := by
     have := vn.len
     cases hcn : cur[n] with
     | nil => rfl
     | cons q w => rw [hcn] at this; simp [this] at hq
    rw [hcn] at hgn
    refine hkeep ?_
    rcases hbest with ⟨rfl, he⟩ | ⟨k, p, u, rfl, hk, hgk, hmin⟩
    ·refine .inl ⟨rfl, fun j l hj hgj => ?_⟩
     rcases Nat.lt_or_ge j n with h1 | h1
     ·exact he j l h1 hgj
     ·have : j = n := by omega
      subst this
      rw [hgn] at hgj; cases hgj; rfl
    ·refine .inr ⟨k, p, u, rfl, by omega, hgk, fun j q' w' hj hgj => ?_⟩
     rcases Nat.lt_or_ge j n with h1 | h1
     ·exact hmin j q' w' h1 hgj
     ·have : j = n := by omega
      subst this
      rw [hgn] at hgj; cases hgj
  ·have hn' : n = cur.length := by simp [o.len] at hq; omega
   subst hn'
   clear hK3
   rcases hbest with ⟨rfl, he⟩ | ⟨k, p, u, rfl, hk, hgk, hmin⟩
   ·refine PIf.yes (by simp) ?_
    have : out' = [] := hmg.nil_inv fun l hl => by
     obtain ⟨j, hj, e⟩ := List.getElem_of_mem hl
     exact he j l hj (by rw [List.getElem?_eq_getElem hj, e])
    subst this
    refine ⟨rfl, i, true, O1, hmd, hsub, hj, fun _ => by have := hlen; simp only [List.length_nil] at this; omega, by have := hlen; simp only [List.length_nil] at this; omega⟩
   ·refine PIf.no (by simp) ?_
    have hmin' : ∀ j q w, cur[j]? = some (q :: w) → sLt q.key p.key = false ∧ (j < k → sLt p.key q.key = true) := fun j q w hg => hmin j q w (List.getElem?_eq_some_iff.1 hg).1 hg
    obtain ⟨out2, rfl, hmg2⟩ := hmg.step_inv hgk hmin'
    have hgsk := List.getElem?_eq_getElem (l := sls) (i := k) (by omega)
    obtain ⟨vk, _, _⟩ := hr.row k _ _ hgsk hgk
    refine o.view.idx hgsk fun a4 _ c4 => ?_
    refine AQ.mk c4.sl ?_
    refine vk.idx (i := 0) (x := p) rfl fun a5 _ c5 => ?_
    refine AC.mk c5.pair.1 (AC.mk c5.pair.2.1 (AY.mk c5.pair.2.2 ?_))
    refine New.pair fun b1 h13 eb hb1 x13 hs13 => ?_
    have o13 := o.ext x13
    have r13 : Ux h.size h13 O1 t sls cur := hr.mod x13 (fun c _ _ _ _ h => h) (fun c _ h => h) (fun c _ h => h)
    have hj13 : J i true O1 h13 := hB.stable _ _ _ _ _ hj (x13.weak (S' := fun b => ¬ O1 b ∧ h.size ≤ b) fun _ _ h => h.elim)
    have htb : t.blk ≠ some b1 := fun e => by have := o.lt e; omega
    refine Loop.rule (fun m x h14 => ∃ (n : Nat) (sls' : List Sl), x = ((n : Int), ()) ∧ m = cur.length - n ∧ n ≤ cur.length ∧ Mod (fun c => t.blk = some c) h13 h14 ∧ Own SlE AP h14 t sls' ∧ Ux h.size h14 O1 t sls' ((cur.take n).map (Fx p) ++ cur.drop n)) ?_
     ⟨0, sls, rfl, rfl, by omega, Mod.refl, o13, by simpa using r13⟩
    rintro K6 m _ h14 ⟨n, sls', rfl, rfl, hn, m14, o14, r14⟩ hK6
    have hlc' : sls'.length = cur.length := by have := r14.len; simp at this; omega
    have hb14 := m14.blk hb1 htb
    refine PIf.intro (fun hq => ?_) (fun hq => ?_)
    ·have hn' : n < cur.length := by simp [o14.len] at hq; omega
     have hgs := List.getElem?_eq_getElem (l := sls') (i := n) (by omega)
     have hgn : ((cur.take n).map (Fx p) ++ cur.drop n)[n]? = some cur[n] := by
      rw [List.getElem?_append_right (by simp; omega)]
      simp; rw [Nat.min_eq_left (by omega), Nat.sub_self]; simp [hn']
     obtain ⟨vn, hvb, hvc⟩ := r14.row n _ _ hgs hgn
     refine o14.view.idx hgs fun a8 ha8 c8 => ?_
     refine AQ.mk c8.sl ?_
     refine Loop.rule (fun m x h15 => ∃ (y : Sl) (l' : List Pr), x = (y, ()) ∧ h15 = h14 ∧ m = l'.length ∧ View Af h14 y l' ∧ (∀ c, y.blk = some c → sls'[n].blk = some c) ∧ Fx p l' = Fx p cur[n] ∧ l'.length ≤ 1099511627776) ?_
      ⟨_, _, rfl, rfl, rfl, vn, fun c h => h, rfl, hvb⟩
     rintro K7 m _ h15 ⟨y, l', rfl, hh15, rfl, vy, hyb, hdw, hyl⟩ hK7
     subst hh15
     refine Join.mk fun K8 hK8 => ?_
     have hend : Fx p l' = l' → K8 (false, ()) h15 := fun e => hK8 _ _ (PIf.no rfl (by
      refine o14.view.idx hgs fun a9 ha9 _ => ?_
      refine o14.storeM (i := n) (by omega) ha9 fun h17 o17 m17 hs17 => ?_
      refine hK6 (cur.length - (n + 1)) _ _ (by omega) ⟨n + 1, _, by rw [AR (by omega)], rfl, by omega, m14.trans m17, o17, ?_⟩
      have r17 : Ux h.size h17 O1 t sls' ((cur.take n).map (Fx p) ++ cur.drop n) := r14.mod m17 (fun c _ _ hn _ => hn) (fun c _ h => h) (fun c _ h => h)
      refine ⟨?_, fun j sl l h1 h2 => ?_⟩
      ·simp [hlc']; omega
      ·rcases Nat.lt_trichotomy j n with hjn | hjn | hjn
       ·rw [List.getElem?_set_ne (by omega)] at h1
        refine r17.row j sl l h1 ?_
        rw [List.getElem?_append_left (by simp; omega)] at h2 ⊢
        rw [List.getElem?_map, List.getElem?_take_of_lt (by omega)] at h2 ⊢
        exact h2
       ·subst hjn
        rw [List.getElem?_set_self (by omega)] at h1
        cases h1
        rw [List.getElem?_append_left (by simp; omega), List.getElem?_map, List.getElem?_take_of_lt (by omega), List.getElem?_eq_getElem hn'] at h2
        simp at h2
        subst h2
        rw [← hdw, e]
        obtain ⟨_, _, hc⟩ := r17.row j _ _ hgs hgn
        exact ⟨vy.mod m17 fun c hb => (hc c (hyb c hb)).2.2.1, hyl, fun c hb => hc c (hyb c hb)⟩
       ·rw [List.getElem?_set_ne (by omega)] at h1
        refine r17.row j sl l h1 ?_
        rw [List.getElem?_append_right (by simp; omega)] at h2 ⊢
        simp only [List.length_map, List.length_take, List.getElem?_drop] at h2 ⊢
        rw [← h2]; congr 1; omega))
     refine PIf.intro (fun hq => ?_) (fun hq => ?_)
     ·cases l' with
      | nil => have := vy.len; simp [this] at hq
      | cons q w =>
       refine vy.idx (i := 0) (x := q) rfl fun a10 _ c10 => ?_
       refine AC.mk c10.pair.1 (AC.mk (AJ hb14 rfl) ?_)
       cases hu : (sLt q.key p.key || sEq q.key p.key)
       ·exact hend (by simp [Fx, upto, hu])
       ·have hyl' := vy.len
        simp at hyl' hyl
        refine hK8 _ _ (PIf.yes rfl ⟨⟨by omega, by show (1 : Int) ≤ ((y.len : Nat) : Int); omega⟩, hK7 w.length _ _ (by simp) ⟨_, w, rfl, rfl, rfl, ?_, ?_, ?_, by omega⟩⟩)
        ·have := vy.sub (lo := 1) (hi := (q :: w).length) (by simp) (Nat.le_refl _)
         rw [List.take_length, ← vy.len] at this
         exact this
        ·intro c hc; exact hyb c (Ps hc)
        ·rw [← hdw]; simp [Fx, upto, hu]
     ·have : l' = [] := by
       have := vy.len
       cases l' with
       | nil => rfl
       | cons q w => simp [this] at hq
      subst this
      exact hend rfl
    ·have hn' : n = cur.length := by simp [o14.len] at hq; omega
     subst hn'
     rw [List.take_length, List.drop_length, List.append_nil] at r14
     refine AC.mk (AJ hb14 rfl) (AC.mk (AB hb14 rfl) (AY.mk (AB hb14 rfl) ?_))
     have hj14 : J i true O1 h14 := hB.stable _ _ _ _ _ hj13 (m14.weak fun c _ hc => ⟨hnt c hc, hbt c hc⟩)
     have hgo : out[i]? = some p := by have := hout 0; simpa using this
     refine Eh.mono (hY i p O1 h14 hgo hj14) ?_
     rintro _ h18 ⟨g, O2, rfl, hsub2, m18, hj18⟩
     have hs1 := m14.size
     have hs0 := hmd.size
     have hsub3 : ∀ b, O2 b → O b ∨ h.size ≤ b := fun b hb => (hsub2 b hb).elim (hsub b) fun hle => .inr (by omega)
     have md14 : Mod O h h14 := (hmd.trans x13.mod).then (m14.weak fun b _ hb => .inr (hbt b hb))
     have md18 : Mod O h h18 := md14.then (m18.weak fun b _ hb => hsub b hb)
     refine ⟨g, rfl, PIf.intro (fun hq => ?_) (fun hq => ?_)⟩
     ·have hg : g = false := by simpa using hq
      subst hg
      exact ⟨rfl, i + 1, false, O2, md18, hsub3, hj18, (fun h => by cases h), by simp at hlen; omega⟩
     ·have hg : g = true := by simpa using hq
      subst hg
      refine hK out2.length _ _ (by simp) ⟨i + 1, O2, sls', _, out2, hmg2, rfl, fun k => ?_, by simp at hlen; omega, md18, hsub3, hj18, o14.mod m18 (fun c hc => hnt c hc), ?_, ?_, by omega⟩
      ·have := hout (k + 1)
       rw [show i + 1 + k = i + (k + 1) by omega, this]; rfl
      ·intro c hc h2
       rcases hsub2 c h2 with h3 | h3
       ·exact hnt c hc h3
       ·have := o14.lt hc; omega
      ·exact r14.mod m18 (fun c _ _ _ hn => hn) (fun c _ h => h) (fun c hc h2 => (hsub2 c h2).elim id fun h3 => by omega)
end Go.Lf.G.M

/-
 The plain law: lists of pairs in the order of their keys.
-/
namespace Go.Lf.G.M
open Go Go.Lf Go.Lf.G
def Sorted (l : List Pr) : Prop := l.Pairwise fun a b => sLt a.key b.key = true
def Ah (k : ByteArray) (l : List Pr) : Option Pr := l.find? fun q => decide (q.key = k)
theorem Tf (k : ByteArray) : Ah k [] = none := rfl
theorem Av (k : ByteArray) (x : Pr) (l : List Pr) : Ah k (x :: l) = if x.key = k then some x else Ah k l := by
 unfold Ah; rw [List.find?_cons]; by_cases h : x.key = k <;> simp [h]
theorem Mq {k : ByteArray} {l : List Pr} {x : Pr} (h : Ah k l = some x) : x.key = k ∧ x ∈ l := by
 unfold Ah at h
 exact ⟨by simpa using List.find?_some h, List.mem_of_find?_eq_some h⟩
theorem FM {k : ByteArray} {l : List Pr} (h : ∀ x ∈ l, x.key ≠ k) : Ah k l = none := by
 unfold Ah; rw [List.find?_eq_none]; simpa using h
theorem Js {a b : ByteArray} (h : sLt a b = true) : a ≠ b := by rintro rfl; rw [BX] at h; cases h
theorem Sorted.find {l : List Pr} (s : Sorted l) {x : Pr} (hx : x ∈ l) : Ah x.key l = some x := by
 induction l with
 | nil => cases hx
 | cons y l ih =>
  rw [Av]
  have s' := List.pairwise_cons.1 s
  rcases List.mem_cons.1 hx with rfl | hx
  ·simp
  ·rw [if_neg (Js (s'.1 x hx))]; exact ih s'.2 hx
theorem Sorted.ext : ∀ {l m : List Pr}, Sorted l → Sorted m → (∀ k, Ah k l = Ah k m) → l = m
 | [], [], _, _, _ => rfl
 | [], y :: m, _, _, h => by have := h y.key; rw [Av, if_pos rfl] at this; cases this
 | x :: l, [], _, _, h => by have := h x.key; rw [Av, if_pos rfl] at this; cases this
 | x :: l, y :: m, sl, sm, h => by
  have sl' := List.pairwise_cons.1 sl
  have sm' := List.pairwise_cons.1 sm
  have hk : x.key = y.key := by
   have h1 := h x.key
   have h2 := h y.key
   rw [Av, if_pos rfl] at h1
   rw [Av y.key y m, if_pos rfl] at h2
   have m1 := (Mq h1.symm).2
   have m2 := (Mq h2).2
   rcases List.mem_cons.1 m1 with e | m1
   ·rw [e]
   ·rcases List.mem_cons.1 m2 with e | m2
    ·rw [e]
    ·have a1 := sm'.1 x m1
     have a2 := sl'.1 y m2
     rw [Mi a1] at a2; cases a2
  have hxy : x = y := by
   have h1 := h x.key
   rw [Av, Av, if_pos rfl, if_pos hk.symm] at h1
   exact Option.some.inj h1
  subst hxy
  rw [Sorted.ext sl'.2 sm'.2 fun k => ?_]
  have := h k
  rw [Av, Av] at this
  by_cases hk : x.key = k
  ·subst hk
   rw [FM fun y hy e => Js (sl'.1 y hy) e.symm, FM fun y hy e => Js (sm'.1 y hy) e.symm]
  ·simpa [hk] using this
def ins (x : Pr) : List Pr → List Pr
 | [] => [x]
 | q :: l => if sLt q.key x.key then q :: ins x l else if q.key = x.key then x :: l else x :: q :: l
theorem Vz (x : Pr) : ∀ l, TE x l = ins x l
 | [] => rfl
 | q :: l => by
  unfold ins
  cases h : sLt q.key x.key
  ·have e : Yr x.key (q :: l) = [] := by simp [Yr, h]
   by_cases hk : q.key = x.key
   ·simp [TE, atK, e, Br, hk]
   ·simp [TE, atK, e, Br, hk]
  ·have e : Yr x.key (q :: l) = q :: Yr x.key l := by simp [Yr, h]
   have ea : atK x.key (q :: l) = atK x.key l + 1 := by simp [atK, e]
   have et : Br x.key (q :: l) = Br x.key l := by simp [Br, ea]
   have ih := Vz x l
   unfold TE at ih ⊢
   rw [ea, et]
   have ht : (if Br x.key l = true then atK x.key l + 1 + 1 else atK x.key l + 1) = (if Br x.key l = true then atK x.key l + 1 else atK x.key l) + 1 := by split <;> rfl
   rw [ht, List.take_succ_cons, List.drop_succ_cons, List.cons_append, List.cons_append, ih]
   simp
theorem AB0 {x y : Pr} : ∀ {l : List Pr}, y ∈ ins x l → y = x ∨ y ∈ l
 | [], h => by simp [ins] at h; exact .inl h
 | q :: l, h => by
  unfold ins at h
  split at h
  ·rcases List.mem_cons.1 h with rfl | h
   ·exact .inr (by simp)
   ·rcases AB0 h with h | h
    ·exact .inl h
    ·exact .inr (by simp [h])
  ·split at h
   ·rcases List.mem_cons.1 h with rfl | h
    ·exact .inl rfl
    ·exact .inr (by simp [h])
   ·rcases List.mem_cons.1 h with rfl | h
    ·exact .inl rfl
    ·exact .inr h
theorem Qp (x : Pr) : ∀ {l : List Pr}, Sorted l → Sorted (ins x l)
 | [], _ => List.pairwise_singleton _ _
 | q :: l, s => by
  have s' := List.pairwise_cons.1 s
  unfold ins
  split
  ·rename_i h
   refine List.pairwise_cons.2 ⟨fun y hy => ?_, Qp x s'.2⟩
   rcases AB0 hy with rfl | hy
   ·exact h
   ·exact s'.1 y hy
  ·rename_i h
   split
   ·rename_i hk
    refine List.pairwise_cons.2 ⟨fun y hy => ?_, s'.2⟩
    have := s'.1 y hy
    rwa [hk] at this
   ·rename_i hk
    have hlt : sLt x.key q.key = true := by
     cases h2 : sLt x.key q.key
     ·exact absurd (J7 (by simpa using h) h2) hk
     ·rfl
    refine List.pairwise_cons.2 ⟨fun y hy => ?_, s⟩
    rcases List.mem_cons.1 hy with rfl | hy
    ·exact hlt
    ·exact CP hlt (s'.1 y hy)
theorem Rz (x : Pr) (k : ByteArray) : ∀ {l : List Pr}, Sorted l → Ah k (ins x l) = if x.key = k then some x else Ah k l
 | [], _ => by simp [ins, Av, Tf]
 | q :: l, s => by
  have s' := List.pairwise_cons.1 s
  unfold ins
  split
  ·rename_i h
   rw [Av, Av, Rz x k s'.2]
   by_cases h1 : q.key = k
   ·have h2 : x.key ≠ k := by rw [← h1]; exact fun e => Js h e.symm
    simp [h1, h2]
   ·simp [h1]
  ·split
   ·rename_i hk
    rw [Av, Av, hk]
    by_cases h1 : x.key = k <;> simp [h1]
   ·rw [Av]
def CZ (l : List Pr) : Prop := ∀ x ∈ l, Au x = 0
theorem MR {x : Pr} {l : List Pr} (h : Au x = 0) : Df x l = ins x l := by simp [Df, h, Vz]
theorem LM {x : Pr} {l : List Pr} (s : Sorted l) : Sorted (Df x l) := by
 by_cases h : Au x = 0
 ·rw [MR h]; exact Qp x s
 ·simpa [Df, h] using s
theorem X0 {x : Pr} {l : List Pr} (g : CZ l) : CZ (Df x l) := by
 by_cases h : Au x = 0
 ·rw [MR h]; exact fun y hy => (AB0 hy).elim (fun e => e ▸ h) (g y)
 ·simpa [Df, h] using g
def BL (t l : List Pr) : List Pr := l.foldl (fun t x => Df x t) t
theorem Nv {l : List Pr} : ∀ {t}, Sorted t → Sorted (BL t l) := by
 induction l with
 | nil => exact fun s => s
 | cons x l ih => exact fun s => ih (LM s)
theorem RD {l : List Pr} : ∀ {t}, CZ t → CZ (BL t l) := by
 induction l with
 | nil => exact fun s => s
 | cons x l ih => exact fun s => ih (X0 s)
theorem MW {l : List Pr} : ∀ {t}, (BL t l).length ≤ t.length + l.length := by
 induction l with
 | nil => exact fun {t} => by simp [BL]
 | cons x l ih => intro t; have := ih (t := Df x t); have := AHO x t; simp [BL] at *; omega
theorem AEv {l : List Pr} (k : ByteArray) : ∀ {t}, Sorted t → Sorted l → CZ l → Ah k (BL t l) = (Ah k l).or (Ah k t) := by
 induction l with
 | nil => intro t _ _ _; simp [BL, Tf]
 | cons x l ih =>
  intro t st sl g
  have sl' := List.pairwise_cons.1 sl
  show Ah k (BL (Df x t) l) = _
  rw [ih (LM st) sl'.2 (fun y hy => g y (by simp [hy])), MR (g x (by simp)), Rz x k st, Av]
  by_cases h : x.key = k
  ·subst h
   rw [FM fun y hy e => Js (sl'.1 y hy) e.symm]
   simp
  ·simp [h]
def Al (ls : List (List Pr)) : List Pr := ls.reverse.foldl BL []
theorem KC (l : List Pr) (ls : List (List Pr)) : Al (l :: ls) = BL (Al ls) l := by simp [Al, List.foldl_append]
theorem Ci : ∀ ls, Sorted (Al ls)
 | [] => List.Pairwise.nil
 | l :: ls => by rw [KC]; exact Nv (Ci ls)
structure OkL (ls : List (List Pr)) : Prop where
 sorted : ∀ l ∈ ls, Sorted l
 good : ∀ l ∈ ls, CZ l
def BF (k : ByteArray) (ls : List (List Pr)) : Option Pr := ls.findSome? (Ah k)
theorem Ct (k : ByteArray) (l : List Pr) (ls : List (List Pr)) : BF k (l :: ls) = (Ah k l).or (BF k ls) := by
 unfold BF; rw [List.findSome?_cons]; cases Ah k l <;> rfl
theorem Gv (k : ByteArray) : ∀ {ls}, OkL ls → Ah k (Al ls) = BF k ls
 | [], _ => rfl
 | l :: ls, o => by
  rw [KC, AEv k (Ci ls) (o.sorted l (by simp)) (o.good l (by simp)), Gv k ⟨fun m hm => o.sorted m (by simp [hm]), fun m hm => o.good m (by simp [hm])⟩, Ct]
theorem P8 (p : Pr) (l : List Pr) : (Fx p l).Sublist l := List.dropWhile_sublist _
theorem AEF {p q : Pr} (h : upto p q = false) : sLt p.key q.key = true := by
 unfold upto at h
 rw [BR] at h
 simp at h
 cases h2 : sLt p.key q.key
 ·exact absurd (J7 h.1 h2) h.2
 ·rfl
theorem AGG {p q : Pr} (h : upto p q = true) : sLt p.key q.key = false := by
 unfold upto at h
 rw [BR] at h
 simp at h
 rcases h with h | h
 ·exact Mi h
 ·rw [h]; exact BX _
theorem UG {p q : Pr} : ∀ {l : List Pr}, Sorted l → q ∈ Fx p l → sLt p.key q.key = true
 | [], _, h => by cases h
 | y :: l, s, h => by
  have s' := List.pairwise_cons.1 s
  unfold Fx at h
  rw [List.dropWhile_cons] at h
  split at h
  ·exact UG s'.2 h
  ·rename_i hy
   have h1 := AEF (p := p) (q := y) (by simpa using hy)
   rcases List.mem_cons.1 h with rfl | h
   ·exact h1
   ·exact CP h1 (s'.1 q h)
theorem Wu {p : Pr} {k : ByteArray} (hk : sLt p.key k = true) : ∀ {l : List Pr}, Ah k (Fx p l) = Ah k l
 | [] => rfl
 | y :: l => by
  unfold Fx
  rw [List.dropWhile_cons]
  split
  ·rename_i hy
   have h1 := AGG hy
   rw [Av, if_neg (by rintro rfl; rw [hk] at h1; cases h1)]
   exact Wu hk
  ·rfl
theorem I5.ok {ls : List (List Pr)} {out : List Pr} (m : I5 ls out) : (∀ l ∈ ls, Sorted l) → Sorted out ∧ ∀ k, Ah k out = BF k ls := by
 induction m with
 | done h =>
  rename_i ls
  intro _
  refine ⟨List.Pairwise.nil, fun k => ?_⟩
  have : ∀ ls : List (List Pr), (∀ l ∈ ls, l = []) → BF k ls = none := fun ls h => by
   unfold BF
   rw [List.findSome?_eq_none_iff]
   intro l hl; rw [h l hl]; rfl
  rw [this ls h]; rfl
 | @step ls k p t out hk hmin hm ih =>
  intro hs
  have hs2 : ∀ l ∈ ls.map (Fx p), Sorted l := fun l hl => by
   obtain ⟨l', hl', rfl⟩ := List.mem_map.1 hl
   exact (hs l' hl').sublist (P8 p l')
  obtain ⟨so, fo⟩ := ih hs2
  have hlow : ∀ q ∈ out, sLt p.key q.key = true := fun q hq => by
   have h1 := so.find hq
   rw [fo] at h1
   unfold BF at h1
   obtain ⟨l, hl, h2⟩ := List.exists_of_findSome?_eq_some h1
   obtain ⟨l', hl', rfl⟩ := List.mem_map.1 hl
   exact UG (hs l' hl') (Mq h2).2
  refine ⟨List.pairwise_cons.2 ⟨hlow, so⟩, fun c => ?_⟩
  have hbel : ∀ l ∈ ls, ∀ q ∈ l, sLt q.key p.key = false := fun l hl q hq => by
   obtain ⟨j, hj, e⟩ := List.getElem_of_mem hl
   cases l with
   | nil => cases hq
   | cons y u =>
    have h1 := (hmin j y u (by rw [List.getElem?_eq_getElem hj, e])).1
    have s' := List.pairwise_cons.1 (hs _ hl)
    rcases List.mem_cons.1 hq with rfl | hq
    ·exact h1
    ·cases h2 : sLt q.key p.key
     ·rfl
     ·have := CP (s'.1 q hq) h2; rw [this] at h1; cases h1
  rw [Av]
  by_cases hc : p.key = c
  ·subst hc
   simp only [if_true]
   have : ∀ (ls : List (List Pr)) (k : Nat), ls[k]? = some (p :: t) → (∀ j q u, ls[j]? = some (q :: u) → j < k → sLt p.key q.key = true) → (∀ l ∈ ls, Sorted l) → BF p.key ls = some p := by
    intro ls
    induction ls with
    | nil => intro k h; simp at h
    | cons l ls ih =>
     intro k h hm hs
     rw [Ct]
     cases k with
     | zero => simp at h; subst h; rw [Av, if_pos rfl]; rfl
     | succ k =>
      have hn : Ah p.key l = none := by
       cases l with
       | nil => rfl
       | cons y u =>
        have h1 := hm 0 y u rfl (by omega)
        have s' := List.pairwise_cons.1 (hs _ (by simp : (y :: u) ∈ (y :: u) :: ls))
        refine FM fun x hx e => ?_
        rcases List.mem_cons.1 hx with rfl | hx
        ·rw [e, BX] at h1; cases h1
        ·have := CP h1 (s'.1 x hx); rw [e, BX] at this; cases this
      rw [hn, Option.none_or]
      exact ih k (by simpa using h) (fun j q u hj hjk => hm (j + 1) q u (by simpa using hj) (by omega)) (fun l hl => hs l (by simp [hl]))
   rw [this ls k hk (fun j q u hj => (hmin j q u hj).2) hs]
  ·rw [if_neg hc, fo]
   unfold BF
   cases h2 : sLt p.key c
   ·
    have h3 : sLt c p.key = true := by
     cases h3 : sLt c p.key
     ·exact absurd (J7 h2 h3) hc
     ·rfl
    have e1 : (ls.map (Fx p)).findSome? (Ah c) = none := by
     rw [List.findSome?_eq_none_iff]
     intro l hl
     obtain ⟨l', hl', rfl⟩ := List.mem_map.1 hl
     refine FM fun x hx e => ?_
     have := UG (hs l' hl') hx
     rw [e, h2] at this; cases this
    have e2 : ls.findSome? (Ah c) = none := by
     rw [List.findSome?_eq_none_iff]
     intro l hl
     refine FM fun x hx e => ?_
     have := hbel l hl x hx
     rw [e, h3] at this; cases this
    rw [e1, e2]
   ·have : ∀ ls : List (List Pr), (ls.map (Fx p)).findSome? (Ah c) = ls.findSome? (Ah c) := fun ls => by
     induction ls with
     | nil => rfl
     | cons l ls ih => rw [List.map_cons, List.findSome?_cons, List.findSome?_cons, Wu h2, ih]
    rw [this]
theorem PV : ∀ (ls : List (List Pr)), (∀ l ∈ ls, l = []) ∨ ∃ (k : Nat) (p : Pr) (t : List Pr), ls[k]? = some (p :: t) ∧ ∀ (j : Nat) (q : Pr) (u : List Pr), ls[j]? = some (q :: u) → sLt q.key p.key = false ∧ (j < k → sLt p.key q.key = true)
 | [] => .inl fun l h => by cases h
 | l :: ls => by
  cases l with
  | nil =>
   rcases PV ls with h | ⟨k, p, t, hk, hm⟩
   ·refine .inl fun l hl => ?_
    rcases List.mem_cons.1 hl with rfl | hl
    ·rfl
    ·exact h l hl
   ·refine .inr ⟨k + 1, p, t, by simpa using hk, fun j q u hj => ?_⟩
    cases j with
    | zero => simp at hj
    | succ j => have := hm j q u (by simpa using hj); exact ⟨this.1, fun h => this.2 (by omega)⟩
  | cons y u =>
   rcases PV ls with h | ⟨k, p, t, hk, hm⟩
   ·refine .inr ⟨0, y, u, rfl, fun j q w hj => ⟨?_, fun h => by omega⟩⟩
    cases j with
    | zero => simp at hj; rw [hj.1]; exact BX _
    | succ j => have := h _ (List.mem_of_getElem? (by simpa using hj)); cases this
   ·cases hlt : sLt p.key y.key
    ·refine .inr ⟨0, y, u, rfl, fun j q w hj => ⟨?_, fun h => by omega⟩⟩
     cases j with
     | zero => simp at hj; rw [hj.1]; exact BX _
     | succ j => exact Tk hlt (hm j q w (by simpa using hj)).1
    ·refine .inr ⟨k + 1, p, t, by simpa using hk, fun j q w hj => ?_⟩
     cases j with
     | zero => simp at hj; rw [← hj.1]; exact ⟨Mi hlt, fun _ => hlt⟩
     | succ j => have := hm j q w (by simpa using hj); exact ⟨this.1, fun h => this.2 (by omega)⟩
def total (ls : List (List Pr)) : Nat := (ls.map List.length).sum
theorem Rl (p : Pr) : ∀ ls, total (ls.map (Fx p)) ≤ total ls
 | [] => Nat.le_refl _
 | l :: ls => by
  have := Rl p ls
  have := (P8 p l).length_le
  simp [total] at *; omega
theorem R3 {p : Pr} {t : List Pr} : ∀ {ls : List (List Pr)} {k : Nat}, ls[k]? = some (p :: t) → total (ls.map (Fx p)) < total ls
 | [], k, h => by simp at h
 | l :: ls, 0, h => by
  simp at h; subst h
  have h1 := Rl p ls
  have h2 := (P8 p t).length_le
  have h3 : Fx p (p :: t) = Fx p t := by simp [Fx, upto, BR]
  simp only [total, List.map_cons, List.sum_cons, h3, List.length_cons] at *
  omega
 | l :: ls, k + 1, h => by
  have h1 := R3 (p := p) (t := t) (ls := ls) (k := k) (by simpa using h)
  have h2 := (P8 p l).length_le
  simp only [total, List.map_cons, List.sum_cons] at *
  omega
theorem Yb (ls : List (List Pr)) : ∃ out, I5 ls out ∧ out.length ≤ total ls := by
 generalize hn : total ls = n
 induction n using Nat.strongRecOn generalizing ls with
 | _ n ih =>
  rcases PV ls with h | ⟨k, p, t, hk, hm⟩
  ·exact ⟨[], .done h, by simp⟩
  ·have hlt := R3 hk
   obtain ⟨out, h1, h2⟩ := ih _ (by omega) (ls.map (Fx p)) rfl
   exact ⟨p :: out, .step hk hm h1, by simp; omega⟩
end Go.Lf.G.M

/-
 Contracts of the parts of the statements about merged sequences.
-/
set_option maxRecDepth 100000
namespace Go.Lf.G.M
open Go Go.Lf Go.Lf.G
def LV (h : Heap) (s : Sl) (ls : List (List Pr)) : Prop :=
 ∃ sls, View SlE h s sls ∧ sls.length = ls.length ∧ ∀ (i : Nat) (sl : Sl) (l : List Pr), sls[i]? = some sl → ls[i]? = some l → View Af h sl l
def LA (X : Nat → Prop) (h : Heap) (s : Sl) (ls : List (List Pr)) : Prop :=
 ∃ sls, View SlE h s sls ∧ (∀ c, s.blk = some c → c < h.size ∧ ¬ X c) ∧ sls.length = ls.length ∧ ∀ (i : Nat) (sl : Sl) (l : List Pr), sls[i]? = some sl → ls[i]? = some l → View Af h sl l ∧ ∀ c, sl.blk = some c → c < h.size ∧ ¬ X c
theorem LV.ext {h h' : Heap} {s : Sl} {ls : List (List Pr)} (v : LV h s ls) (x : Ext h h') : LV h' s ls := by
 obtain ⟨sls, v, hl, hr⟩ := v
 exact ⟨sls, v.ext x, hl, fun i sl l h1 h2 => (hr i sl l h1 h2).ext x⟩
theorem LA.mod {X X' : Nat → Prop} {S : Nat → Prop} {h h' : Heap} {s : Sl} {ls : List (List Pr)} (v : LA X h s ls) (x : Mod S h h') (hS : ∀ c, c < h.size → S c → X c) (hX : ∀ c, c < h.size → X' c → X c) : LA X' h' s ls := by
 obtain ⟨sls, v, hb, hl, hr⟩ := v
 have := x.size
 refine ⟨sls, v.mod x fun c hc hs => (hb c hc).2 (hS c (hb c hc).1 hs), fun c hc => ⟨by have := (hb c hc).1; omega, fun hx => (hb c hc).2 (hX c (hb c hc).1 hx)⟩, hl, fun i sl l h1 h2 => ?_⟩
 obtain ⟨v1, hb1⟩ := hr i sl l h1 h2
 exact ⟨v1.mod x fun c hc hs => (hb1 c hc).2 (hS c (hb1 c hc).1 hs), fun c hc => ⟨by have := (hb1 c hc).1; omega, fun hx => (hb1 c hc).2 (hX c (hb1 c hc).1 hx)⟩⟩
theorem LA.ext {X : Nat → Prop} {h h' : Heap} {s : Sl} {ls : List (List Pr)} (v : LA X h s ls) (x : Ext h h') : LA X h' s ls := v.mod x (fun _ _ h => h.elim) fun _ _ h => h
theorem X8 {t l : List Pr} {n : Nat} {x : Pr} (h : l[n]? = some x) : BL t (l.take (n + 1)) = Df x (BL t (l.take n)) := by
 rw [List.take_add_one, h]
 simp only [BL, List.foldl_append, Option.toList_some, List.foldl_cons, List.foldl_nil]
theorem LG : ∀ ls, (Al ls).length ≤ total ls
 | [] => Nat.le_refl _
 | l :: ls => by
  rw [KC]
  have := LG ls
  have := MW (l := l) (t := Al ls)
  simp [total] at *; omega
theorem TA : ∀ ls, CZ (Al ls)
 | [] => fun _ h => by cases h
 | l :: ls => by rw [KC]; exact RD (TA ls)
theorem YV (l : List Pr) (ls : List (List Pr)) : total (l :: ls) = l.length + total ls := by simp [total]
def ALo (A : Amb) (X : Nat → Prop) (h : Heap) (s : Sl) (ls : List (List Pr)) : Prop :=
 ∃ vs, View AD4 h s vs ∧ (∀ c, s.blk = some c → c < h.size ∧ ¬ X c) ∧ vs.length = ls.length ∧ ∀ (i : Nat) (v : ZC) (l : List Pr), vs[i]? = some v → ls[i]? = some l → (v.v = .nilFunc ∧ l = []) ∨ (Cw A P v.v (fun c => c < h.size ∧ ¬ X c) h l ∧ l.length ≤ 1099511627776)
end Go.Lf.G.M
namespace Go.Lf
open G
theorem Cw.later {A : Amb} {X : Nat → Prop} {fv : Value} {h h' : Heap} {l : List Pr} (it : Cw A P fv (fun c => c < h.size ∧ ¬ X c) h l) {S : Nat → Prop} (x : Mod S h h') (hS : ∀ c, c < h.size → S c → X c) : Cw A P fv (fun c => c < h'.size ∧ ¬ X c) h' l :=
 it.weak (fun c hc => ⟨by have := x.size; omega, hc.2⟩) (fun c hc => hc.1) fun c hc => x.get c hc.1 fun hs => hc.2 (hS c hc.1 hs)
end Go.Lf
namespace Go.Lf.G.M
open Go Go.Lf Go.Lf.G
theorem AH7 {A : Amb} {X : Nat → Prop} {h : Heap} {s : Sl} {ls : List (List Pr)} {R : Value → Heap → Prop} (q : ALo A X h s ls) (hX : ∀ c, X c → c < h.size) (hl : ls.length ≤ 1099511627776) (o : OkL ls)
  (H : ∀ fv h', Cw A P fv (fun c => c < h'.size ∧ ¬ X c) h' (Al ls) → Ext h h' → h'.size = h.size + 1 → R fv h') : AA A P JN #[.slice s.p s.len s.cap] h R := by
 obtain ⟨vs, v, hsb, hvl, hit⟩ := q
 refine ABF ?_
 unfold PN
 refine New.mk fun h1 _ hb1 hx hsz => ?_
 have hos : ∃ os : List (Option (List Pr)), os.length = vs.length ∧ (∀ (i : Nat) (v : ZC), vs[i]? = some v → (v.v = .nilFunc ∧ os[i]? = some none) ∨ ∃ l, os[i]? = some (some l) ∧ Cw A P v.v (fun c => c < h.size ∧ ¬ X c) h l ∧ l.length ≤ 1099511627776) ∧
   (∀ l, l ∈ os.filterMap id → l ∈ ls) ∧ ∀ k, BF k (os.filterMap id) = BF k ls := by
  clear v hX hl o H hb1 hx hsz hsb
  induction vs generalizing ls with
  | nil =>
   have : ls = [] := List.eq_nil_of_length_eq_zero hvl.symm
   subst this
   exact ⟨[], rfl, fun i v h => by simp at h, fun l h => by simp at h, fun k => rfl⟩
  | cons v vs ih =>
   cases ls with
   | nil => simp at hvl
   | cons l ls =>
    obtain ⟨os, h1, h2, h3, h4⟩ := ih (ls := ls) (by simpa using hvl) (fun i v l h1 h2 => hit (i + 1) v l (by simpa using h1) (by simpa using h2))
    rcases hit 0 v l rfl rfl with ⟨h5, h6⟩ | ⟨h5, h6⟩
    ·refine ⟨none :: os, by simp [h1], fun i v hi => ?_, fun m hm => ?_, fun k => ?_⟩
     ·cases i with
      | zero => simp at hi; subst hi; exact .inl ⟨h5, rfl⟩
      | succ i => exact h2 i v (by simpa using hi)
     ·simp at hm; exact List.mem_cons_of_mem _ (h3 m (by simpa using hm))
     ·subst h6
      rw [Ct]
      simpa [Tf] using h4 k
    ·refine ⟨some l :: os, by simp [h1], fun i v hi => ?_, fun m hm => ?_, fun k => ?_⟩
     ·cases i with
      | zero => simp at hi; subst hi; exact .inr ⟨l, rfl, h5, h6⟩
      | succ i => exact h2 i v (by simpa using hi)
     ·simp at hm
      rcases hm with rfl | hm
      ·simp
      ·exact List.mem_cons_of_mem _ (h3 m (by simpa using hm))
     ·rw [Ct, List.filterMap_cons]
      simp only [id]
      rw [Ct, h4 k]
 obtain ⟨os, ho1, ho2, ho3, ho4⟩ := hos
 obtain ⟨out, hm, _⟩ := Yb (os.filterMap id)
 have hout : out = Al ls := by
  have hmo := hm.ok fun l hl => o.sorted l (ho3 l hl)
  exact hmo.1.ext (Ci ls) fun k => by rw [hmo.2 k, ho4 k, Gv k o]
 subst hout
 refine H _ h1 ((AJ0 (S := fun c => c < h.size ∧ ¬ X c) hb1 (v.ext hx) (by omega) ho1 (fun i v hi => ?_) hm (fun c hc => by omega)).weak ?_ (fun c hc => hc.1) (fun c _ => rfl)) hx hsz
 ·rcases ho2 i v hi with h5 | ⟨l, h5, h6, h7⟩
  ·exact .inl h5
  ·exact .inr ⟨l, h5, h6.weak (fun c hc => hc) (fun c hc => by omega) (fun c hc => hx.get c hc.1 (fun h => h)), h7⟩
 ·rintro c (hc | ⟨h1, h2⟩)
  ·exact ⟨by omega, hc.2⟩
  ·refine ⟨h1, ?_⟩
   rcases h2 with rfl | h2
   ·intro h; have := hX _ h; omega
   ·exact (hsb c h2).2
end Go.Lf.G.M

/-
 The statements about merged sequences, over the formulas.
-/
set_option maxRecDepth 100000
namespace Go.Lf.G.M
open Go Go.Lf Go.Lf.G
theorem LA.sub {X : Nat → Prop} {h : Heap} {s : Sl} {ls : List (List Pr)} (v : LA X h s ls) {lo hi : Nat} (h1 : lo ≤ hi) (h2 : hi ≤ ls.length) : LA X h ⟨Ao s.p s.cap lo 1, hi - lo, s.cap - lo⟩ ((ls.take hi).drop lo) := by
 obtain ⟨sls, v, hb, hl, hr⟩ := v
 refine ⟨(sls.take hi).drop lo, v.sub h1 (by omega), fun c hc => hb c (Ps hc), by simp [hl], fun i sl l h3 h4 => ?_⟩
 rw [List.getElem?_drop, List.getElem?_take] at h3 h4
 split at h3
 ·rename_i hlt
  rw [if_pos hlt] at h4
  exact hr _ _ _ h3 h4
 ·cases h3
end Go.Lf.G.M

/-
 The statements about merged sequences that are left early, and about their keys, over the formulas.
-/
set_option maxRecDepth 100000
namespace Go.Lf.G.M
open Go Go.Lf Go.Lf.G
theorem Lp (k : ByteArray) (ls ms : List (List Pr)) : BF k (ls ++ ms) = (BF k ls).or (BF k ms) := by
 unfold BF; rw [List.findSome?_append]
theorem Sq (k : ByteArray) (l m : List Pr) : Ah k (l ++ m) = (Ah k l).or (Ah k m) := by
 unfold Ah; rw [List.find?_append]
end Go.Lf.G.M

