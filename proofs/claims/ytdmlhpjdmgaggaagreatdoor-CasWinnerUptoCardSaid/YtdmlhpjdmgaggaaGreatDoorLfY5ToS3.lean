/-
 Contract: a table is built.
-/
import Derived.Test.YtdmlhpjdmgaggaaGreatDoorLfU20ToY4
import Derived.Shelf.SlGeneric
import Derived.Shelf.SlIter.Nil
import Derived.Shelf.SlIter.Sorted
import Derived.Shelf.SortM.Plain
import Derived.Shelf.SortM.SortNone
import Derived.Test.YtdmlhpjdmgaggaaGreatDoorProg
import Derived.Test.YtdmlhpjdmgaggaaGreatDoorLfU3ToB1
set_option linter.unusedVariables false
set_option linter.unusedSimpArgs false
set_option maxRecDepth 100000
set_option linter.unusedVariables false
set_option linter.unusedSimpArgs false
namespace Go.Lf.G
open Go
theorem WV : Q5 P A8 Ad EC.w 16 = true := by kernel_rfl
structure BS (h1 : Heap) (B : Nat) (E : Nat → Obj → Prop) (out : List UInt8) (kl : List ByteArray) (ix : List UInt8) (n : Nat) (hh : Heap) : Prop where
 bld : Bld B hh B out
 keys : ∃ ks : Sl, hh[B + 1]? = some (.cells #[.slice ks.p ks.len ks.cap] A8 (0, 0)) ∧ Own EC Ad hh ks kl ∧ ∀ c, ks.blk = some c → B + 3 < c
 ix : hh[B + 2]? = some (.cells #[.string (Aa ix)] Ad (0, 0))
 cnt : hh[B + 3]? = some (.cells #[.int .i64 (n : Int)] BO (0, 0))
 fix : ∀ c o, E c o → hh[c]? = some o
 old : Mod (fun c => B ≤ c) h1 hh
structure EOk (B : Nat) (E : Nat → Obj → Prop) : Prop where
 u8 : ∀ c o, E c o → ∀ cs fz, o ≠ .cells cs Cx fz
 str : ∀ c o, E c o → ∀ cs fz, o ≠ .cells cs Ad fz
 lt : ∀ c o, E c o → B + 3 < c
theorem ACO {h : Heap} {c : Nat} {o : Obj} (hc : h[c]? = some o) (ho : ∀ cs fz, o ≠ .cells cs Cx fz) : ¬ U8 h c := by
 rintro ⟨cs, fz, e⟩
 rw [hc] at e
 exact ho cs fz (Option.some.inj e)
theorem Ja {cs : Array Value} {T T' : TypeId} {fr : Nat × Nat} (h : T ≠ T') : ∀ cs' fz, (Obj.cells cs T fr) ≠ .cells cs' T' fz := fun cs' fz e => by injection e with _ e _; exact h e
theorem AGB {h : Heap} {ks : Sl} {kl : List ByteArray} (o : Own EC Ad h ks kl) {c : Nat} (hu : U8 h c) : ks.blk ≠ some c := by
 obtain ⟨cs, fz, e⟩ := hu
 exact o.ne e (by decide)
theorem BS.ext {h1 hh h' : Heap} {B : Nat} {E : Nat → Obj → Prop} {out : List UInt8} {kl : List ByteArray} {ix : List UInt8} {n : Nat} (b : BS h1 B E out kl ix n hh) (x : Ext hh h') : BS h1 B E out kl ix n h' := by
 obtain ⟨ks, e1, e2, e3⟩ := b.keys
 exact ⟨b.bld.ext x, ⟨ks, Ab x e1, e2.ext x, e3⟩, Ab x b.ix, Ab x b.cnt, fun c o hc => x.blk (b.fix c o hc) (fun h => h), b.old.trans x.mod⟩
theorem BS.write {h1 hh h' : Heap} {B : Nat} {E : Nat → Obj → Prop} {out out' : List UInt8} {kl : List ByteArray} {ix : List UInt8} {n : Nat} (ok : EOk B E) (b : BS h1 B E out kl ix n hh) (hb : Bld B h' B out')
  (m : Mod (fun c => c = B ∨ (B ≤ c ∧ U8 hh c)) hh h') : BS h1 B E out' kl ix n h' := by
 obtain ⟨ks, e1, e2, e3⟩ := b.keys
 have keep : ∀ {c : Nat} {o : Obj}, hh[c]? = some o → c ≠ B → (∀ cs fz, o ≠ .cells cs Cx fz) → h'[c]? = some o := fun hc hne ho => m.blk hc (fun h => h.elim hne (fun h => ACO hc ho h.2))
 refine ⟨hb, ⟨ks, keep e1 (by omega) (Ja (by decide)), e2.mod m (fun c hc h => ?_), e3⟩, keep b.ix (by omega) (Ja (by decide)), keep b.cnt (by omega) (Ja (by decide)), fun c o hc => keep (b.fix c o hc) (by have := ok.lt c o hc; omega) (ok.u8 c o hc), b.old.trans (m.weak fun c _ hc => by rcases hc with h | h <;> omega)⟩
 rcases h with h | h
 ·have := e3 c hc; omega
 ·exact AGB e2 h.2 hc
theorem BS.key {h1 hh h' : Heap} {B : Nat} {E : Nat → Obj → Prop} {out : List UInt8} {kl kl' : List ByteArray} {ix : List UInt8} {n : Nat} (ok : EOk B E) (b : BS h1 B E out kl ix n hh) {ks ks' : Sl} (e1 : hh[B + 1]? = some (.cells #[.slice ks.p ks.len ks.cap] A8 (0, 0)))
  (e2 : Own EC Ad hh ks kl) (e3 : ∀ c, ks.blk = some c → B + 3 < c) (m : Mod (fun c => ks.blk = some c ∨ c = B + 1) hh h') (e1' : h'[B + 1]? = some (.cells #[.slice ks'.p ks'.len ks'.cap] A8 (0, 0)))
  (e2' : Own EC Ad h' ks' kl') (e3' : ∀ c, ks'.blk = some c → B + 3 < c) : BS h1 B E out kl' ix n h' := by
 have hB : ∀ c, ks.blk = some c ∨ c = B + 1 → B + 1 ≤ c := fun c hc => by
  rcases hc with h | h
  ·have := e3 c h; omega
  ·omega
 refine ⟨b.bld.mod m (fun h => by have := hB _ h; omega) (fun c hc hu h => ?_), ⟨ks', e1', e2', e3'⟩, m.blk b.ix (fun h => ?_), m.blk b.cnt (fun h => ?_), fun c o hc => m.blk (b.fix c o hc) (fun h => ?_), b.old.trans (m.weak fun c _ hc => by have := hB _ hc; omega)⟩
 ·rcases h with h | h
  ·exact AGB e2 hu h
  ·subst h
   exact ACO e1 (Ja (by decide)) hu
 ·rcases h with h | h
  ·have := e3 _ h; omega
  ·omega
 ·rcases h with h | h
  ·have := e3 _ h; omega
  ·omega
 ·rcases h with h | h
  ·rcases e2.row with ⟨rfl, _⟩ | ⟨g, cur, hp, hg, _⟩
   ·simp [Sl.blk] at h
   ·simp [Sl.blk, hp] at h
    subst h
    rw [b.fix _ o hc] at hg
    exact ok.str _ o hc cur (0, 0) (Option.some.inj hg)
  ·have := ok.lt c o hc; omega
theorem BS.ixs {h1 hh h' : Heap} {B : Nat} {E : Nat → Obj → Prop} {out : List UInt8} {kl : List ByteArray} {ix ix' : List UInt8} {n : Nat} (ok : EOk B E) (b : BS h1 B E out kl ix n hh) (m : Mod (fun c => c = B + 2) hh h') (e : h'[B + 2]? = some (.cells #[.string (Aa ix')] Ad (0, 0))) : BS h1 B E out kl ix' n h' := by
 obtain ⟨ks, e1, e2, e3⟩ := b.keys
 exact ⟨b.bld.mod m (fun h => by omega) (fun c hc hu h => by subst h; exact ACO b.ix (Ja (by decide)) hu), ⟨ks, m.blk e1 (by omega), e2.mod m (fun c hc h => by have := e3 c hc; omega), e3⟩, e, m.blk b.cnt (by omega),
  fun c o hc => m.blk (b.fix c o hc) (by have := ok.lt c o hc; omega), b.old.trans (m.weak fun c _ hc => by omega)⟩
theorem BS.cnts {h1 hh h' : Heap} {B : Nat} {E : Nat → Obj → Prop} {out : List UInt8} {kl : List ByteArray} {ix : List UInt8} {n n' : Nat} (ok : EOk B E) (b : BS h1 B E out kl ix n hh) (m : Mod (fun c => c = B + 3) hh h') (e : h'[B + 3]? = some (.cells #[.int .i64 (n' : Int)] BO (0, 0))) : BS h1 B E out kl ix n' h' := by
 obtain ⟨ks, e1, e2, e3⟩ := b.keys
 exact ⟨b.bld.mod m (fun h => by omega) (fun c hc hu h => by subst h; exact ACO b.cnt (Ja (by decide)) hu), ⟨ks, m.blk e1 (by omega), e2.mod m (fun c hc h => by have := e3 c hc; omega), e3⟩, m.blk b.ix (by omega), e,
  fun c o hc => m.blk (b.fix c o hc) (by have := ok.lt c o hc; omega), b.old.trans (m.weak fun c _ hc => by omega)⟩
theorem BS.lp {h1 hh : Heap} {B d : Nat} {E : Nat → Obj → Prop} {out : List UInt8} {kl : List ByteArray} {ix : List UInt8} {n : Nat} (b : BS h1 B E out kl ix n hh) (hd : B + 3 < d) (hne : ∀ o, ¬ E d o) {o' : Go.Loop} (hl : hh[d]? = some (.loop o')) (o : Go.Loop) : BS h1 B E out kl ix n (hh.setIfInBounds d (.loop o)) := by
 obtain ⟨ks, e1, e2, e3⟩ := b.keys
 have m : Mod (fun c => c = d) hh (hh.setIfInBounds d (.loop o)) := Mod.setObj rfl
 refine ⟨b.bld.mod m (fun h => by omega) (fun c hc hu h => by subst h; exact ACO hl (fun _ _ e => by cases e) hu), ⟨ks, m.blk e1 (by omega), e2.mod m (fun c hc h => ?_), e3⟩, m.blk b.ix (by omega), m.blk b.cnt (by omega),
  fun c o hc => m.blk (b.fix c o hc) (fun h => by subst h; exact hne _ hc), b.old.trans (m.weak fun c _ hc => by omega)⟩
 subst h
 rcases e2.row with ⟨rfl, _⟩ | ⟨g, cur, hp, hg, _⟩
 ·simp [Sl.blk] at hc
 ·simp [Sl.blk, hp] at hc
  subst hc
  rw [hl] at hg
  cases hg
end Go.Lf.G

/-
 Contract: a table is built.
-/
set_option maxRecDepth 100000
set_option linter.unusedVariables false
set_option linter.unusedSimpArgs false
namespace Go.Lf.G
open Go
def Fz (l : List Pr) : List ByteArray := l.map (·.key)
def ADC (l : List Pr) : Nat := min (l.length + 8) 8192
def JS (l : List Pr) : List UInt8 := Wp (Fz l) (ADC l)
def Gs (l : List Pr) : List UInt8 := wraps (framesT l (JS l))
def Ep (ks : List ByteArray) : List UInt8 := ks.flatMap fun k => Cm (bl k)
structure Eu (l : List Pr) : Prop where
 ne : l ≠ []
 ok : ∀ p ∈ l, Ih p
 inc : l.Pairwise fun p q => sLt p.key q.key = true
 many : l.length ≤ 100000
theorem Eu.tabS {l : List Pr} (T : Eu l) : WG (Gs l) l (JS l) := by
 have h1 : 1 ≤ ADC l ∧ ADC l ≤ 8192 := by unfold ADC; omega
 refine ⟨rfl, T.ne, T.ok, T.inc, ?_, fun p hp => AHT h1.1 h1.2 (List.mem_map_of_mem hp), T.many⟩
 unfold JS
 rw [AHH h1.1]
 exact h1
theorem QD : ∀ {rs : List (List UInt8)}, (∀ r ∈ rs, r.length ≤ 1048576) → (wraps rs).length ≤ rs.length * 1048590
 | [], _ => by simp
 | r :: rs, h => by
  have h1 := (Fa (h r List.mem_cons_self)).2
  have h2 := h r List.mem_cons_self
  have h3 := QD (rs := rs) fun x hx => h x (List.mem_cons_of_mem _ hx)
  simp only [wraps, List.flatMap_cons, List.length_append, List.length_cons] at h3 ⊢
  omega
theorem MO : ∀ {ks : List ByteArray}, (∀ k ∈ ks, k.size ≤ 64) → (Ep ks).length ≤ ks.length * 74
 | [], _ => by simp [Ep]
 | k :: ks, h => by
  have h2 := h k List.mem_cons_self
  have h1 := Ai (n := (bl k).length) (by rw [Bz]; omega)
  have h3 := MO (ks := ks) fun x hx => h x (List.mem_cons_of_mem _ hx)
  have h4 := Bz k
  simp only [Ep, List.flatMap_cons, List.length_append, List.length_cons, Cm] at h3 ⊢
  omega
theorem KL {l : List Pr} (ho : ∀ p ∈ l, Ih p) : ∀ k ∈ Bd l, k.size ≤ 64 := fun k hk => by
 obtain ⟨i, _, rfl⟩ := List.mem_map.1 hk
 unfold GA
 split
 ·rename_i p hp
  exact (ho p (List.mem_of_getElem? hp)).keyMost
 ·exact Nat.zero_le _
theorem ME {l : List Pr} (ho : ∀ p ∈ l, Ih p) {i : Nat} (hi : i < BM l) : (Ar (BQ l i)).length ≤ 8 * 8276 := by
 have h1 := I6 (l := BQ l i) fun p hp => ho p (LJ hp)
 have h2 := (Md hi).2.1
 have : (BQ l i).length * 8276 ≤ 8 * 8276 := Nat.mul_le_mul_right _ h2
 omega
theorem V4 {l : List Pr} (ho : ∀ p ∈ l, Ih p) : ∀ r ∈ (H5 l).map Ar, r.length ≤ 1048576 := fun r hr => by
 obtain ⟨b, hb, rfl⟩ := List.mem_map.1 hr
 obtain ⟨i, hi, rfl⟩ := List.mem_map.1 hb
 have := ME ho (List.mem_range.1 hi)
 omega
theorem AH2 {l : List Pr} {i : Nat} (hi : i < BM l) : ((H5 l).map Ar)[i]? = some (Ar (BQ l i)) := by simp [H5, hi]
theorem Mx {l : List Pr} {i : Nat} (hi : i < BM l) : (Bd l)[i]? = some (GA l (8 * i)) := by simp [Bd, hi]
theorem PX {α : Type} {l : List α} {i : Nat} {x : α} (h : l[i]? = some x) : l.take (i + 1) = l.take i ++ [x] := by rw [List.take_add_one, h]; rfl
theorem Zc (a b : List Pr) : Fz (a ++ b) = Fz a ++ Fz b := by simp [Fz]
theorem AAE {l : List Pr} (h : l.Pairwise fun p q => sLt p.key q.key = true) {i : Nat} {p q : Pr} (hp : l[i]? = some p) (hq : l[i + 1]? = some q) : sLt p.key q.key = true := by
 obtain ⟨h1, rfl⟩ := List.getElem?_eq_some_iff.1 hp
 obtain ⟨h2, rfl⟩ := List.getElem?_eq_some_iff.1 hq
 exact List.pairwise_iff_getElem.1 h _ _ h1 h2 (by omega)
theorem AEq (n : Nat) (h : n ≤ 100000) : (if (8192 : Int) < (IntKind.wrap .i64 (((n : Nat) : Int) + (8 : Int))) then (8192 : Int) else (IntKind.wrap .i64 (((n : Nat) : Int) + (8 : Int)))) = ((min (n + 8) 8192 : Nat) : Int) := by
 rw [wrap_i64 (by omega) (by omega)]
 split <;> omega
theorem AHS {A : Amb} {h : Heap} {s : Sl} {l : List Pr} {R : Value → Heap → Prop} (T : Eu l) (hv : View Af h s l) (hb : ∀ b, s.blk = some b → b < h.size)
  (H : ∀ h', Ext h h' → R (.tuple #[.string (Aa (Gs l)), .int .i64 0]) h') : AA A P JE #[.slice s.p s.len s.cap] h R := by
 refine Xz ?_
 unfold MB
 have hpos := List.length_pos_iff.2 T.ne
 have hmany := T.many
 refine PIf.no (by rw [hv.len]; simp; exact T.ne) ?_
 refine Loop.rule (fun m x hh => ∃ i : Nat, x = (⟨#[]⟩, 0, (i : Int), ()) ∧ m = l.length - i ∧ i ≤ l.length ∧ Ext h hh) ?_ ⟨0, rfl, rfl, by omega, Mod.refl⟩
 rintro K m _ g ⟨i, rfl, rfl, hi, xg⟩ hK
 dsimp only
 have hvg := hv.ext xg
 refine PIf.intro (fun hq => ?_) (fun hq => ?_)
 ·have hil : i < l.length := by rw [hv.len] at hq; simp at hq; omega
  have hx : l[i]? = some l[i] := List.getElem?_eq_getElem hil
  have hox := T.ok _ (List.getElem_mem hil)
  generalize l[i] = x at hx hox
  have hkm := hox.keyMost
  have hvm := hox.valMost
  refine hvg.idx hx fun a ha hc => ?_
  obtain ⟨c0, c1, c2⟩ := hc.pair
  rw [Int.toNat_natCast]
  refine AC.mk c0 (AC.mk c1 (AY.mk c2 ?_))
  refine New.pair fun b h5 hbe hb5 x5 hs5 => ?_
  refine Join.mk fun K1 hK1 => ?_
  refine AC.mk (AJ hb5 rfl) (PIf.no (AHf hox.key) ?_)
  have last : K1 (false, ()) h5 := by
   refine hK1 _ _ (PIf.no rfl ?_)
   refine Join.mk fun K2 hK2 => ?_
   refine AC.mk (AJ hb5 rfl) (PIf.no (by simp; omega) ?_)
   refine AC.mk (AB hb5 rfl) ?_
   refine hK2 _ _ (PIf.no (by simp; omega) ?_)
   rw [AR (by omega)]
   exact hK (l.length - (i + 1)) _ _ (by omega) ⟨i + 1, rfl, rfl, hil, xg.trans x5⟩
  have prev : PIf (decide (((i : Nat) : Int) > (0 : Int))) (AC h5 (⟨b, 0, none⟩ : Addr) fun t49 =>
     Idx s.p s.len (IntKind.wrap .i64 (((i : Nat) : Int) - (1 : Int))) fun a1 =>
     AC h5 (a1.add ((IntKind.wrap .i64 (((i : Nat) : Int) - (1 : Int))).toNat * 3)) fun t55 =>
     K1 ((sLt t49 t55 || sEq t49 t55), ()) h5) (K1 (false, ()) h5) := by
   refine PIf.intro (fun hq1 => ?_) (fun _ => last)
   have hi0 : 0 < i := by simp at hq1; omega
   obtain ⟨k, rfl⟩ : ∃ k, i = k + 1 := ⟨i - 1, by omega⟩
   have ew : IntKind.wrap .i64 (((k + 1 : Nat) : Int) - (1 : Int)) = (k : Int) := by rw [wrap_i64 (by omega) (by omega)]; omega
   have hk : l[k]? = some l[k] := List.getElem?_eq_getElem (by omega)
   refine AC.mk (AJ hb5 rfl) ?_
   rw [ew]
   refine (hvg.ext x5).idx hk fun a1 ha1 hc1 => ?_
   rw [Int.toNat_natCast]
   refine AC.mk hc1.pair.1 ?_
   have hlt := AAE T.inc hk hx
   have e : (sLt x.key l[k].key || sEq x.key l[k].key) = false := by
    rw [Bool.or_eq_false_iff]
    refine ⟨?_, ?_⟩
    ·cases hs : sLt x.key l[k].key with
     | false => rfl
     | true => have := CP hlt hs; rw [BX] at this; cases this
    ·rw [BR, decide_eq_false_iff_not]
     intro e
     rw [e, BX] at hlt; cases hlt
   rw [e]
   exact last
  refine AY.mk (AB hb5 rfl) (PIf.intro (fun hg => ?_) (fun _ => prev))
  refine AC.mk (AB hb5 rfl) (PIf.no ?_ prev)
  rw [Rq, MC (hox.gone hg)]
  rfl
 ·clear hK
  have hsl := hv.len
  refine New.mk fun h8 _ hb8 x8 hs8 => ?_
  refine New.mk fun h9 _ hb9 x9 hs9 => ?_
  refine New.mk fun h10 _ hb10 x10 hs10 => ?_
  refine Store.mk hb10 (by simp) fun h11 hb11 m11 hs11 => ?_
  refine New.mk fun h12 _ hb12 x12 hs12 => ?_
  refine Store.mk hb12 (by simp) fun h13 hb13 m13 hs13 => ?_
  have z8 : h8.size = g.size + 1 := hs8
  have z9 : h9.size = g.size + 2 := by omega
  have z11 : h11.size = g.size + 3 := by omega
  have z13 : h13.size = g.size + 4 := by omega
  rw [z8] at hb9
  rw [z9] at hb10 m11 hb11
  rw [z11] at hb12 m13 hb13
  rw [z8, z9, z11]
  refine AIr hv.cap (by omega) fun fv h14 x14 hs14 hc0 hc1 it => ⟨_, rfl, ?_⟩
  rw [z13] at hs14 hc0 hc1 it
  generalize hBd : g.size = B at *
  have hEd : ∃ E : Nat → Obj → Prop, E = fun c o => (c = B + 4 ∧ o = .cells #[.slice s.p s.len s.cap] AP (0, 0)) ∨ (c = B + 5 ∧ o = .cells #[.int .i64 8] BO (0, 0)) := ⟨_, rfl⟩
  obtain ⟨E, hE⟩ := hEd
  have xx : Ext g h14 := by
   refine ⟨by have := x14.size; omega, fun c hc _ => ?_⟩
   rw [hBd] at hc
   exact (x14.get c (by omega) (fun h => h)).trans ((m13.get c (by omega) (by omega)).trans ((x12.get c (by omega) (fun h => h)).trans ((m11.get c (by omega) (by omega)).trans ((x10.get c (by omega) (fun h => h)).trans ((x9.get c (by omega) (fun h => h)).trans (x8.get c (by omega) (fun h => h)))))))
  have k8 : h14[B]? = some (.cells #[.pointer none, .slice none 0 0] Ce (0, 0)) :=
   x14.blk (m13.blk (x12.blk (m11.blk (x10.blk (x9.blk hb8 (fun h => h)) (fun h => h)) (by omega)) (fun h => h)) (by omega)) (fun h => h)
  have k9 : h14[B + 1]? = some (.cells #[.slice none 0 0] A8 (0, 0)) :=
   x14.blk (m13.blk (x12.blk (m11.blk (x10.blk hb9 (fun h => h)) (by omega)) (fun h => h)) (by omega)) (fun h => h)
  have k10 : h14[B + 2]? = some (.cells #[.string (Aa [])] Ad (0, 0)) := by
   have hb11' : h11[B + 2]? = some (.cells #[.string (Aa [])] Ad (0, 0)) := by rw [ACs]; simpa using hb11
   exact x14.blk (m13.blk (x12.blk hb11' (fun h => h)) (by omega)) (fun h => h)
  have k12 : h14[B + 3]? = some (.cells #[.int .i64 ((0 : Nat) : Int)] BO (0, 0)) := by
   have hb13' : h13[B + 3]? = some (.cells #[.int .i64 ((0 : Nat) : Int)] BO (0, 0)) := by simpa using hb13
   exact x14.blk hb13' (fun h => h)
  have bs0 : BS g B E [] [] [] 0 h14 := by
   refine ⟨AJO k8 (Nat.le_refl _), ⟨⟨none, 0, 0⟩, k9, Own.nil, fun c hc => by simp [Sl.blk] at hc⟩, k10, k12, fun c o hc => ?_, xx.mod⟩
   subst hE
   rcases hc with ⟨rfl, rfl⟩ | ⟨rfl, rfl⟩
   ·exact hc0
   ·exact hc1
  have okE : EOk B E := by
   subst hE
   refine ⟨fun c o hc cs fz => ?_, fun c o hc cs fz => ?_, fun c o hc => ?_⟩
   ·rcases hc with ⟨rfl, rfl⟩ | ⟨rfl, rfl⟩ <;> exact Ja (by decide) _ _
   ·rcases hc with ⟨rfl, rfl⟩ | ⟨rfl, rfl⟩ <;> exact Ja (by decide) _ _
   ·rcases hc with ⟨rfl, rfl⟩ | ⟨rfl, rfl⟩ <;> omega
  have notE : ∀ d o, B + 6 ≤ d → ¬ E d o := by
   subst hE
   rintro d o hd (⟨rfl, _⟩ | ⟨rfl, _⟩) <;> omega
  have hnb : (chunks s).length = BM l := by rw [NP, hsl]; rfl
  have hnb2 : BM l ≤ 12501 := by unfold BM; omega
  have hsz14 : h14.size = B + 6 := by omega
  have hbB : ∀ b, s.blk = some b → b < B := fun b hbb => by have := hb b hbb; have := xg.size; omega
  refine AKu it (fun i hh => BS g B E (wraps (((H5 l).map Ar).take i)) (Fz (l.take (8 * i))) (Ep ((Bd l).take i)) i hh) ?_ ?_ ?_ ?_ ?_
  ·intro i hh hI c hc
   subst hE
   rcases hc with rfl | rfl
   ·exact (hI.fix _ _ (.inl ⟨rfl, rfl⟩)).trans hc0.symm
   ·exact (hI.fix _ _ (.inr ⟨rfl, rfl⟩)).trans hc1.symm
  ·rintro i hh o hI hdf ⟨o', ho'⟩
   exact hI.lp (by omega) (fun o => notE _ _ (by omega)) ho' o
  ·intro rec
   exact bs0.ext ((Mod.push h14 _).trans (Mod.push _ _))
  ·intro i x hh rec kn' kj' hx hI hdf hlp hst hkn
   have hin : i < BM l := by have := (List.getElem?_eq_some_iff.1 hx).1; omega
   have hxe : x = Ld s i := by
    have := Wy (s := s) (i := i) (by rw [hsl]; exact hin)
    rw [this] at hx
    exact (Option.some.inj hx).symm
   subst hxe
   rw [hsz14] at hdf hlp ⊢
   refine ⟨rec, hlp, hst, ?_⟩
   obtain ⟨E', hE'⟩ : ∃ E' : Nat → Obj → Prop, E' = fun c o => E c o ∨ (c = B + 6 ∧ o = .deferred (some [])) ∨ (c = B + 6 + 1 ∧ o = .loop { rec with state := .busy }) := ⟨_, rfl⟩
   have okE' : EOk B E' := by
    subst hE'
    refine ⟨fun c o hc cs fz => ?_, fun c o hc cs fz => ?_, fun c o hc => ?_⟩
    ·rcases hc with h | ⟨rfl, rfl⟩ | ⟨rfl, rfl⟩
     ·exact okE.u8 c o h cs fz
     ·intro e; cases e
     ·intro e; cases e
    ·rcases hc with h | ⟨rfl, rfl⟩ | ⟨rfl, rfl⟩
     ·exact okE.str c o h cs fz
     ·intro e; cases e
     ·intro e; cases e
    ·rcases hc with h | ⟨rfl, rfl⟩ | ⟨rfl, rfl⟩
     ·exact okE.lt c o h
     ·omega
     ·omega
   have hI1 := hI.lp (d := B + 6 + 1) (by omega) (fun o => notE _ _ (by omega)) hlp { rec with state := .busy }
   have hI2 : BS g B E' (wraps (((H5 l).map Ar).take i)) (Fz (l.take (8 * i))) (Ep ((Bd l).take i)) i (hh.setIfInBounds (B + 6 + 1) (.loop { rec with state := .busy })) := by
    refine ⟨hI1.bld, hI1.keys, hI1.ix, hI1.cnt, fun c o hc => ?_, hI1.old⟩
    subst hE'
    rcases hc with h | ⟨rfl, rfl⟩ | ⟨rfl, rfl⟩
    ·exact hI1.fix c o h
    ·rw [Array.getElem?_setIfInBounds_ne (by omega)]; exact hdf
    ·exact Di (Am hlp)
   generalize hh.setIfInBounds (B + 6 + 1) (.loop { rec with state := .busy }) = g0 at hI2
   have hbl := Md hin
   have hob : ∀ p ∈ BQ l i, Ih p := fun p hp => T.ok p (LJ hp)
   have vch : ∀ {hh : Heap} {out : List UInt8} {kl : List ByteArray} {ix : List UInt8} {n : Nat}, BS g B E' out kl ix n hh → View Af hh (Ld s i) (BQ l i) := fun b =>
    View.chunk (hvg.mod b.old (fun c hc => by have := hbB c hc; omega)) hin
   have hcl : (Ld s i).len = (BQ l i).length := (vch hI2).len
   have houtl := QD (rs := ((H5 l).map Ar).take i) fun r hr => V4 T.ok r (List.mem_of_mem_take hr)
   have hixl := MO (ks := (Bd l).take i) fun k hk => KL T.ok k (List.mem_of_mem_take hk)
   rw [List.length_take] at houtl hixl
   have hbp := ME T.ok hin
   refine Loop.rule (fun m x hh => ∃ j : Nat, x = (Aa (Ar ((BQ l i).take j)), (j : Int), ()) ∧ m = (BQ l i).length - j ∧ j ≤ (BQ l i).length ∧
    BS g B E' (wraps (((H5 l).map Ar).take i)) (Fz (l.take (8 * i)) ++ Fz ((BQ l i).take j)) (Ep ((Bd l).take i)) i hh) ?_ ⟨0, rfl, rfl, by omega, by simpa [Fz] using hI2⟩
   rintro K3 m _ h17 ⟨j, rfl, rfl, hj, bs⟩ hK3
   dsimp only [AK7]
   refine PIf.intro (fun hq => ?_) (fun hq => ?_)
   ·have hjl : j < (BQ l i).length := by have hq : ((j : Nat) : Int) < (((Ld s i).len : Nat) : Int) := of_decide_eq_true hq; omega
    have hx : (BQ l i)[j]? = some (BQ l i)[j] := List.getElem?_eq_getElem hjl
    have hox := hob _ (List.getElem_mem hjl)
    generalize (BQ l i)[j] = p at hx hox
    have htk := PX hx
    refine (vch bs).idx hx fun a ha hc => ?_
    obtain ⟨c0, c1, c2⟩ := hc.pair
    rw [Int.toNat_natCast]
    refine AC.mk c0 (AC.mk c1 (AY.mk c2 ?_))
    refine New.pair fun b5 h21 hbe hb5 x21 hs21 => ?_
    have bs1 := bs.ext x21
    obtain ⟨ks, e1, e2, e3⟩ := bs1.keys
    refine AQ.mk (s := ks) (AJ e1 rfl) ?_
    refine AC.mk (AJ hb5 rfl) ?_
    have hb5B : B + 3 < b5 := by have := Am bs.cnt; omega
    have hkl : (Fz (l.take (8 * i)) ++ Fz ((BQ l i).take j)).length ≤ 100010 := by
     rw [List.length_append]; simp only [Fz, List.length_map, List.length_take]; omega
    refine New.append1 (E := EC) (x := p.key) rfl WV e2 (by omega) (by simp only [maxLen]; omega) fun s' h23 o23 m23 hn23 hp23 => ?_
    have e1' : h23[B + 1]? = some (.cells #[.slice ks.p ks.len ks.cap] A8 (0, 0)) := m23.blk e1 (fun h => by have := e3 _ h; omega)
    refine Store.mk e1' (by simp) fun h24 hb24 m24 hs24 => ?_
    have e3' : ∀ c, s'.blk = some c → B + 3 < c := fun c hc => by
     rcases hn23 c hc with h | h
     ·exact e3 c h
     ·have := Am bs1.cnt; omega
    have bs2 : BS g B E' _ (Fz (l.take (8 * i)) ++ Fz ((BQ l i).take j) ++ [p.key]) _ i h24 :=
     bs1.key okE' (ks' := s') e1 e2 e3 ((m23.weak fun c _ hc => .inl hc).trans (m24.weak fun c _ hc => .inr hc)) (by simpa using hb24) (o23.mod m24 (fun c hc h => by have := e3' c hc; omega)) e3'
    have k5 : h24[b5]? = some (.cells #[.string p.key, .string p.val, .bool p.gone] AO (0, 0)) := m24.blk (m23.blk hb5 (fun h => e2.ne hb5 (by decide) h)) (by omega)
    refine AC.mk (AJ k5 rfl) (AC.mk (AB k5 rfl) (AY.mk (AB k5 rfl) ?_))
    refine AIB (x := p) hox fun h25 x25 => ⟨_, rfl, ?_⟩
    have hpl : Ar ((BQ l i).take (j + 1)) = Ar ((BQ l i).take j) ++ F3 p := by rw [htk]; simp [Ar]
    have lt := I6 (l := (BQ l i).take j) fun q hq => hob q (List.mem_of_mem_take hq)
    rw [List.length_take] at lt
    have lp := (MV hox).2
    have hkm := hox.keyMost
    have hvm := hox.valMost
    refine ⟨by rw [AV, AV, max_i64]; omega, ?_⟩
    rw [CQ, ← hpl, AR (by omega)]
    refine hK3 ((BQ l i).length - (j + 1)) _ _ (by omega) ⟨j + 1, rfl, rfl, hjl, ?_⟩
    have bs3 := bs2.ext x25
    have : Fz ((BQ l i).take (j + 1)) = Fz ((BQ l i).take j) ++ [p.key] := by rw [htk, Zc]; rfl
    rw [this, ← List.append_assoc]
    exact bs3
   ·have hjl : j = (BQ l i).length := by have hq : ¬ ((j : Nat) : Int) < (((Ld s i).len : Nat) : Int) := of_decide_eq_false hq; omega
    have et : (BQ l i).take j = BQ l i := by rw [hjl]; simp
    rw [et] at bs ⊢
    refine WE (by omega) (fun h => by omega) fun hlen h26 x26 => ⟨_, _, rfl, ?_⟩
    have bs1 := bs.ext x26
    have hwl := Fa hlen
    refine Oy bs1.bld (by have := Am bs1.cnt; omega) (by rw [AV]; omega) fun h27 b27 m27 => ⟨_, _, rfl, ?_⟩
    have bs2 := bs1.write okE' b27 m27
    rw [HV] at bs2
    refine AC.mk (AJ bs2.ix rfl) ?_
    have h0 : (BQ l i)[0]? = some (BQ l i)[0] := List.getElem?_eq_getElem (by omega)
    have hk0 : GA l (8 * i) = (BQ l i)[0].key := by
     have := Mo (l := l) (i := i) (j := 0) (by omega)
     rw [h0] at this
     unfold GA
     rw [Nat.add_zero] at this
     rw [← this]
    have hox0 := hob _ (List.getElem_mem (show 0 < (BQ l i).length by omega))
    generalize (BQ l i)[0] = p0 at h0 hk0 hox0
    obtain ⟨a4, ha4, hc4⟩ := (vch bs2).cells 0 p0 h0
    refine Idx.mk (k := 0) ha4 (by rw [hcl]; omega) ?_
    rw [Nat.zero_mul, add_zero] at hc4
    refine AC.mk (n := p0.key) (by show hget h27 (a4.add 0) = _; rw [add_zero]; exact hc4.pair.1) ?_
    have hkm := hox0.keyMost
    refine QE (by omega) fun h28 x28 => ⟨_, rfl, ?_⟩
    have bs3 := bs2.ext x28
    refine ⟨AJ bs3.ix rfl, ?_⟩
    have l10 := Ai (n := (bl p0.key).length) (by rw [Bz]; omega)
    have lk := Bz p0.key
    refine ⟨by rw [AV, AV, max_i64]; simp only [Cm, List.length_append]; omega, ?_⟩
    rw [CQ]
    refine Store.mk bs3.ix (by simp) fun h29 hb29 m29 hs29 => ?_
    have bs4 := bs3.ixs okE' (ix' := Ep ((Bd l).take i) ++ Cm (bl p0.key)) m29 (by simpa using hb29)
    refine AZ.mk (AJ bs4.cnt rfl) ?_
    rw [AR (by omega)]
    refine Store.mk bs4.cnt (by simp) fun h30 hb30 m30 hs30 => ?_
    have bs5 := bs4.cnts okE' (n' := i + 1) m30 (by simpa using hb30)
    have ew : wraps (((H5 l).map Ar).take (i + 1)) = wraps (((H5 l).map Ar).take i) ++ Bt (Ar (BQ l i)) := by
     rw [PX (AH2 hin)]; simp [wraps]
    have ek : Fz (l.take (8 * (i + 1))) = Fz (l.take (8 * i)) ++ Fz (BQ l i) := by rw [← Zc, ACy]
    have ef : Ep ((Bd l).take (i + 1)) = Ep ((Bd l).take i) ++ Cm (bl p0.key) := by
     rw [PX (Mx hin), hk0]; simp [Ep]
    subst hE'
    refine hkn h30 ?_ ?_ ?_
    ·rw [ew, ek, ef]
     exact ⟨bs5.bld, bs5.keys, bs5.ix, bs5.cnt, fun c o hc => bs5.fix c o (.inl hc), bs5.old⟩
    ·rw [hsz14]; exact bs5.fix _ _ (.inr (.inl ⟨rfl, rfl⟩))
    ·rw [hsz14]; exact bs5.fix _ _ (.inr (.inr ⟨rfl, rfl⟩))
  ·intro h31 hI hdf
   rw [hnb] at hI
   have e1 : ((H5 l).map Ar).take (BM l) = (H5 l).map Ar := List.take_of_length_le (by simp [Es])
   have e2 : l.take (8 * BM l) = l := List.take_of_length_le (by unfold BM; omega)
   have e3 : (Bd l).take (BM l) = Bd l := List.take_of_length_le (by simp [FJ])
   rw [e1, e2, e3] at hI
   rw [hsz14] at hdf ⊢
   obtain ⟨E', hE'⟩ : ∃ E' : Nat → Obj → Prop, E' = fun c o => E c o ∨ (c = B + 6 ∧ o = .deferred (some [])) := ⟨_, rfl⟩
   have okE' : EOk B E' := by
    subst hE'
    refine ⟨fun c o hc cs fz => ?_, fun c o hc cs fz => ?_, fun c o hc => ?_⟩
    ·rcases hc with h | ⟨rfl, rfl⟩
     ·exact okE.u8 c o h cs fz
     ·intro e; cases e
    ·rcases hc with h | ⟨rfl, rfl⟩
     ·exact okE.str c o h cs fz
     ·intro e; cases e
    ·rcases hc with h | ⟨rfl, rfl⟩
     ·exact okE.lt c o h
     ·omega
   have bs : BS g B E' (wraps ((H5 l).map Ar)) (Fz l) (Ep (Bd l)) (BM l) h31 := by
    refine ⟨hI.bld, hI.keys, hI.ix, hI.cnt, fun c o hc => ?_, hI.old⟩
    subst hE'
    rcases hc with h | ⟨rfl, rfl⟩
    ·exact hI.fix c o h
    ·exact hdf
   obtain ⟨ks, k1, k2, k3⟩ := bs.keys
   refine AQ.mk (s := ks) (AJ k1 rfl) (AQ.mk (s := ks) (AJ k1 rfl) ?_)
   have hkl : ks.len = l.length := by rw [k2.len]; simp [Fz]
   have hfn : 1 ≤ ADC l ∧ ADC l ≤ 8192 := by unfold ADC; omega
   have tS := T.tabS
   have hfl := tS.flen
   rw [hkl, AEq _ T.many]
   rw [show ((min (l.length + 8) 8192 : Nat) : Int) = ((ADC l : Nat) : Int) from rfl, ← hkl]
   refine AJi (ks := Fz l) k2.view (fun k hk => ?_) hfn.1 hfn.2 (by simp [Fz]; omega) (fun b hb => k2.lt hb) fun h33 x33 => ⟨_, _, rfl, ?_⟩
   ·obtain ⟨p, hp, rfl⟩ := List.mem_map.1 hk
    have := (T.ok p hp).keyMost; omega
   have bs1 := bs.ext x33
   refine AZ.mk (AJ bs1.cnt rfl) ?_
   rw [DD (by omega)]
   refine F9 (by omega) fun h34 x34 => ⟨_, rfl, ?_⟩
   have bs2 := bs1.ext x34
   refine AC.mk (AJ bs2.ix rfl) ⟨AJ bs1.ix rfl, ?_⟩
   have l1 := Ai (n := BM l) (by omega)
   have hixl := MO (ks := Bd l) (KL T.ok)
   rw [FJ] at hixl
   refine ⟨by rw [AV, AV, max_i64]; omega, ?_⟩
   rw [hsl, DD (by omega)]
   refine F9 (by omega) fun h35 x35 => ⟨_, rfl, ?_⟩
   have bs3 := bs2.ext x35
   have l2 := Ai (n := l.length) (by omega)
   refine ⟨AJ bs3.ix rfl, ?_⟩
   rw [CQ]
   refine ⟨by rw [AV, AV, max_i64]; simp only [List.length_append]; omega, ?_⟩
   refine ADS (l := JS l) (by omega) fun h36 x36 => ⟨_, rfl, ?_⟩
   have bs4 := bs3.ext x36
   have l3 := Ai (n := (JS l).length) (by omega)
   refine ⟨AJ bs4.ix rfl, ?_⟩
   rw [CQ, CQ]
   have ltx : (Cm (JS l)).length = (CG (JS l).length).length + (JS l).length := by simp [Cm]
   refine ⟨by rw [AV, AV, max_i64]; simp only [List.length_append]; omega, ?_⟩
   have efoot : CG (BM l) ++ Ep (Bd l) ++ CG l.length ++ Cm (JS l) = Qd l (JS l) := by
    unfold Qd Ep; simp only [List.append_assoc]
   rw [efoot]
   have hft := R4 tS
   refine WE (by omega) (fun h => by omega) fun hlen h37 x37 => ⟨_, _, rfl, PIf.no rfl ?_⟩
   have bs5 := bs4.ext x37
   have houtl := QD (rs := (H5 l).map Ar) (V4 T.ok)
   rw [List.length_map, Es] at houtl
   have hwl := Fa hlen
   refine Oy bs5.bld (by have := Am bs5.cnt; omega) (by rw [AV]; omega) fun h38 b38 m38 => ⟨_, _, rfl, ?_⟩
   have bs6 := bs5.write okE' b38 m38
   rw [HV] at bs6
   refine AEd bs6.bld (by have := Am bs6.cnt; omega) fun h39 b39 m39 => ⟨_, rfl, ?_⟩
   have bs7 := bs6.write okE' b39 m39
   have efr : wraps ((H5 l).map Ar) ++ Bt (Qd l (JS l)) = Gs l := by unfold Gs framesT; simp [wraps]
   have k6 : h39[B + 6]? = some (.deferred (some [])) := bs7.fix _ _ (by subst hE'; exact .inr ⟨rfl, rfl⟩)
   refine ⟨k6, ?_⟩
   rw [efr]
   refine H _ ⟨?_, fun c hc _ => ?_⟩
   ·have := bs7.old.size; have := xg.size; simp; omega
   ·have := xg.size
    rw [Array.getElem?_setIfInBounds_ne (by omega)]
    exact (bs7.old.get c (by omega) (by omega)).trans (xg.get c hc (fun h => h))
end Go.Lf.G

/-
 The contracts of maps.Keys, slices.Sorted and slices.Sort at this translation (printed by the kit's lay-plain.mjs).
-/
namespace Go.Proofs
open Go.Shelf
def Tryz.keysA_ren : Go.Shelf.Ren := ⟨fun | 7 => 48 | 10 => 90 | n => n, fun | 23 => 88 | 26 => 9 | 3 => 103 | 28 => 101 | 0 => 0 | 27 => 100 | 33 => 107 | 4 => 4 | n => n, fun | n => n⟩
theorem Tryz.keysA : Go.Proofs.SlLaysZ.n7 Tryz.prog Tryz.keysA_ren := {
 mixed := by kernel_rfl
 f7 := ⟨Tryz.f48.name, by decide, Tryz.func48.trans (congrArg some (by kernel_rfl))⟩
 f10 := ⟨Tryz.f90.name, by decide, Tryz.func90.trans (congrArg some (by kernel_rfl))⟩
 t0 := Tryz.underlying0
 a0 := Tryz.isAgg0
 z0 := Tryz.sizeOf0
 v0 := Tryz.zeroValue0
 t4 := Tryz.underlying4
 a4 := Tryz.isAgg4
 z4 := Tryz.sizeOf4
 v4 := Tryz.zeroValue4
 t23 := Tryz.underlying88
 a23 := Tryz.isAgg88
 z23 := Tryz.sizeOf88
 v23 := Tryz.zeroValue88
 t26 := Tryz.underlying9
 a26 := Tryz.isAgg9
 z26 := Tryz.sizeOf9
 v26 := Tryz.zeroValue9
 t27 := Tryz.underlying100
 a27 := Tryz.isAgg100
 z27 := Tryz.sizeOf100
 v27 := Tryz.zeroValue100
 t28 := Tryz.underlying101
 a28 := Tryz.isAgg101
 z28 := Tryz.sizeOf101
 v28 := Tryz.zeroValue101
 t33 := Tryz.underlying107
 a33 := Tryz.isAgg107
 z33 := Tryz.sizeOf107
 v33 := Tryz.zeroValue107 }
def Tryz.sortedA_ren : Go.Shelf.Ren := ⟨fun | 6 => 47 | 8 => 88 | 9 => 89 | 11 => 127 | 13 => 129 | 12 => 128 | 23 => 163 | 24 => 164 | 14 => 154 | 15 => 155 | 16 => 156 | 17 => 157 | 18 => 158 | 19 => 159 | 20 => 160 | 21 => 161 | 22 => 162 | 25 => 181 | 26 => 182 | 27 => 183 | 28 => 184 | 29 => 185 | 30 => 186 | 31 => 208 | n => n, fun | 26 => 9 | 28 => 101 | 24 => 23 | 0 => 0 | 3 => 3 | 37 => 41 | 48 => 204 | 50 => 81 | 4 => 4 | 40 => 223 | 39 => 222 | 45 => 95 | 5 => 5 | 9 => 9 | 51 => 246 | 55 => 249 | 57 => 269 | 58 => 139 | 33 => 107 | n => n, fun | n => n⟩
theorem Tryz.sortedA : Go.Proofs.SlLaysZ.n6 Tryz.prog Tryz.sortedA_ren := {
 mixed := by kernel_rfl
 f6 := ⟨Tryz.f47.name, by decide, Tryz.func47.trans (congrArg some (by kernel_rfl))⟩
 f8 := ⟨Tryz.f88.name, by decide, Tryz.func88.trans (congrArg some (by kernel_rfl))⟩
 f11 := ⟨Tryz.f127.name, by decide, Tryz.func127.trans (congrArg some (by kernel_rfl))⟩
 t0 := Tryz.underlying0
 a0 := Tryz.isAgg0
 z0 := Tryz.sizeOf0
 v0 := Tryz.zeroValue0
 t24 := Tryz.underlying23
 a24 := Tryz.isAgg23
 z24 := Tryz.sizeOf23
 v24 := Tryz.zeroValue23
 t26 := Tryz.underlying9
 a26 := Tryz.isAgg9
 z26 := Tryz.sizeOf9
 v26 := Tryz.zeroValue9
 t28 := Tryz.underlying101
 a28 := Tryz.isAgg101
 z28 := Tryz.sizeOf101
 v28 := Tryz.zeroValue101
 i26 := by kernel_rfl }
def Tryz.sortA_ren : Go.Shelf.Ren := ⟨fun | 6 => 89 | 8 => 129 | 9 => 128 | 19 => 163 | 20 => 164 | 21 => 154 | 22 => 155 | 23 => 156 | 24 => 157 | 25 => 158 | 26 => 159 | 27 => 160 | 28 => 161 | 29 => 162 | 36 => 181 | 31 => 182 | 32 => 183 | 37 => 184 | 38 => 185 | 39 => 186 | 41 => 208 | n => n, fun | 27 => 23 | 29 => 9 | 3 => 3 | 32 => 41 | 26 => 23 | 0 => 0 | 44 => 204 | 46 => 81 | 4 => 4 | 36 => 223 | 35 => 222 | 41 => 95 | 5 => 5 | 9 => 9 | 53 => 246 | 57 => 249 | 63 => 269 | 64 => 139 | n => n, fun | n => n⟩
theorem Tryz.sortA : Go.Proofs.SlLaysM.n6 Tryz.prog Tryz.sortA_ren := {
 mixed := by kernel_rfl
 f6 := ⟨Tryz.f89.name, by decide, Tryz.func89.trans (congrArg some (by kernel_rfl))⟩
 f8 := Tryz.func129.trans (congrArg some (by kernel_rfl))
 f9 := ⟨Tryz.f128.name, by decide, Tryz.func128.trans (congrArg some (by kernel_rfl))⟩
 f19 := Tryz.func163.trans (congrArg some (by kernel_rfl))
 f20 := Tryz.func164.trans (congrArg some (by kernel_rfl))
 f21 := ⟨Tryz.f154.name, by decide, Tryz.func154.trans (congrArg some (by kernel_rfl))⟩
 f22 := ⟨Tryz.f155.name, by decide, Tryz.func155.trans (congrArg some (by kernel_rfl))⟩
 f23 := ⟨Tryz.f156.name, by decide, Tryz.func156.trans (congrArg some (by kernel_rfl))⟩
 f24 := ⟨Tryz.f157.name, by decide, Tryz.func157.trans (congrArg some (by kernel_rfl))⟩
 f25 := ⟨Tryz.f158.name, by decide, Tryz.func158.trans (congrArg some (by kernel_rfl))⟩
 f26 := ⟨Tryz.f159.name, by decide, Tryz.func159.trans (congrArg some (by kernel_rfl))⟩
 f27 := ⟨Tryz.f160.name, by decide, Tryz.func160.trans (congrArg some (by kernel_rfl))⟩
 f28 := ⟨Tryz.f161.name, by decide, Tryz.func161.trans (congrArg some (by kernel_rfl))⟩
 f29 := ⟨Tryz.f162.name, by decide, Tryz.func162.trans (congrArg some (by kernel_rfl))⟩
 f31 := Tryz.func182.trans (congrArg some (by kernel_rfl))
 f32 := Tryz.func183.trans (congrArg some (by kernel_rfl))
 f36 := ⟨Tryz.f181.name, by decide, Tryz.func181.trans (congrArg some (by kernel_rfl))⟩
 f37 := ⟨Tryz.f184.name, by decide, Tryz.func184.trans (congrArg some (by kernel_rfl))⟩
 f38 := ⟨Tryz.f185.name, by decide, Tryz.func185.trans (congrArg some (by kernel_rfl))⟩
 f39 := ⟨Tryz.f186.name, by decide, Tryz.func186.trans (congrArg some (by kernel_rfl))⟩
 f41 := ⟨Tryz.f208.name, by decide, Tryz.func208.trans (congrArg some (by kernel_rfl))⟩
 t0 := Tryz.underlying0
 a0 := Tryz.isAgg0
 z0 := Tryz.sizeOf0
 v0 := Tryz.zeroValue0
 t3 := Tryz.underlying3
 a3 := Tryz.isAgg3
 z3 := Tryz.sizeOf3
 v3 := Tryz.zeroValue3
 t4 := Tryz.underlying4
 a4 := Tryz.isAgg4
 z4 := Tryz.sizeOf4
 v4 := Tryz.zeroValue4
 t5 := Tryz.underlying5
 a5 := Tryz.isAgg5
 z5 := Tryz.sizeOf5
 v5 := Tryz.zeroValue5
 t9 := Tryz.underlying9
 a9 := Tryz.isAgg9
 z9 := Tryz.sizeOf9
 v9 := Tryz.zeroValue9
 t26 := Tryz.underlying23
 a26 := Tryz.isAgg23
 z26 := Tryz.sizeOf23
 v26 := Tryz.zeroValue23
 t27 := Tryz.underlying23
 a27 := Tryz.isAgg23
 z27 := Tryz.sizeOf23
 v27 := Tryz.zeroValue23
 t29 := Tryz.underlying9
 a29 := Tryz.isAgg9
 z29 := Tryz.sizeOf9
 v29 := Tryz.zeroValue9
 t32 := Tryz.underlying41
 a32 := Tryz.isAgg41
 z32 := Tryz.sizeOf41
 v32 := Tryz.zeroValue41
 t35 := Tryz.underlying222
 a35 := Tryz.isAgg222
 z35 := Tryz.sizeOf222
 v35 := Tryz.zeroValue222
 t36 := Tryz.underlying223
 a36 := Tryz.isAgg223
 z36 := Tryz.sizeOf223
 v36 := Tryz.zeroValue223
 t41 := Tryz.underlying95
 a41 := Tryz.isAgg95
 z41 := Tryz.sizeOf95
 v41 := Tryz.zeroValue95
 t44 := Tryz.underlying204
 a44 := Tryz.isAgg204
 z44 := Tryz.sizeOf204
 v44 := Tryz.zeroValue204
 t46 := Tryz.underlying81
 a46 := Tryz.isAgg81
 z46 := Tryz.sizeOf81
 v46 := Tryz.zeroValue81
 t53 := Tryz.underlying246
 a53 := Tryz.isAgg246
 z53 := Tryz.sizeOf246
 v53 := Tryz.zeroValue246
 t57 := Tryz.underlying249
 a57 := Tryz.isAgg249
 z57 := Tryz.sizeOf249
 v57 := Tryz.zeroValue249
 t63 := Tryz.underlying269
 a63 := Tryz.isAgg269
 z63 := Tryz.sizeOf269
 v63 := Tryz.zeroValue269
 t64 := Tryz.underlying139
 a64 := Tryz.isAgg139
 z64 := Tryz.sizeOf139
 v64 := Tryz.zeroValue139 }
def Tryz.sortI_ren : Go.Shelf.Ren := ⟨fun | 5 => 131 | 8 => 129 | 7 => 167 | 19 => 163 | 20 => 164 | 10 => 189 | 11 => 190 | 12 => 191 | 13 => 192 | 14 => 193 | 15 => 194 | 16 => 195 | 17 => 196 | 18 => 197 | 30 => 211 | 31 => 182 | 32 => 183 | 33 => 212 | 34 => 213 | 35 => 214 | 40 => 220 | n => n, fun | 23 => 61 | 25 => 3 | 3 => 3 | 32 => 41 | 22 => 61 | 0 => 0 | 44 => 204 | 46 => 81 | 4 => 4 | 36 => 223 | 35 => 222 | 41 => 95 | 5 => 5 | 9 => 9 | 53 => 246 | 57 => 249 | 63 => 269 | 64 => 139 | n => n, fun | n => n⟩
theorem Tryz.sortI : Go.Proofs.SlLaysM.n5 Tryz.prog Tryz.sortI_ren := {
 mixed := by kernel_rfl
 f5 := ⟨Tryz.f131.name, by decide, Tryz.func131.trans (congrArg some (by kernel_rfl))⟩
 f7 := ⟨Tryz.f167.name, by decide, Tryz.func167.trans (congrArg some (by kernel_rfl))⟩
 f8 := Tryz.func129.trans (congrArg some (by kernel_rfl))
 f10 := ⟨Tryz.f189.name, by decide, Tryz.func189.trans (congrArg some (by kernel_rfl))⟩
 f11 := ⟨Tryz.f190.name, by decide, Tryz.func190.trans (congrArg some (by kernel_rfl))⟩
 f12 := ⟨Tryz.f191.name, by decide, Tryz.func191.trans (congrArg some (by kernel_rfl))⟩
 f13 := ⟨Tryz.f192.name, by decide, Tryz.func192.trans (congrArg some (by kernel_rfl))⟩
 f14 := ⟨Tryz.f193.name, by decide, Tryz.func193.trans (congrArg some (by kernel_rfl))⟩
 f15 := ⟨Tryz.f194.name, by decide, Tryz.func194.trans (congrArg some (by kernel_rfl))⟩
 f16 := ⟨Tryz.f195.name, by decide, Tryz.func195.trans (congrArg some (by kernel_rfl))⟩
 f17 := ⟨Tryz.f196.name, by decide, Tryz.func196.trans (congrArg some (by kernel_rfl))⟩
 f18 := ⟨Tryz.f197.name, by decide, Tryz.func197.trans (congrArg some (by kernel_rfl))⟩
 f19 := Tryz.func163.trans (congrArg some (by kernel_rfl))
 f20 := Tryz.func164.trans (congrArg some (by kernel_rfl))
 f30 := ⟨Tryz.f211.name, by decide, Tryz.func211.trans (congrArg some (by kernel_rfl))⟩
 f31 := Tryz.func182.trans (congrArg some (by kernel_rfl))
 f32 := Tryz.func183.trans (congrArg some (by kernel_rfl))
 f33 := ⟨Tryz.f212.name, by decide, Tryz.func212.trans (congrArg some (by kernel_rfl))⟩
 f34 := ⟨Tryz.f213.name, by decide, Tryz.func213.trans (congrArg some (by kernel_rfl))⟩
 f35 := ⟨Tryz.f214.name, by decide, Tryz.func214.trans (congrArg some (by kernel_rfl))⟩
 f40 := ⟨Tryz.f220.name, by decide, Tryz.func220.trans (congrArg some (by kernel_rfl))⟩
 t0 := Tryz.underlying0
 a0 := Tryz.isAgg0
 z0 := Tryz.sizeOf0
 v0 := Tryz.zeroValue0
 t3 := Tryz.underlying3
 a3 := Tryz.isAgg3
 z3 := Tryz.sizeOf3
 v3 := Tryz.zeroValue3
 t4 := Tryz.underlying4
 a4 := Tryz.isAgg4
 z4 := Tryz.sizeOf4
 v4 := Tryz.zeroValue4
 t5 := Tryz.underlying5
 a5 := Tryz.isAgg5
 z5 := Tryz.sizeOf5
 v5 := Tryz.zeroValue5
 t9 := Tryz.underlying9
 a9 := Tryz.isAgg9
 z9 := Tryz.sizeOf9
 v9 := Tryz.zeroValue9
 t22 := Tryz.underlying61
 a22 := Tryz.isAgg61
 z22 := Tryz.sizeOf61
 v22 := Tryz.zeroValue61
 t23 := Tryz.underlying61
 a23 := Tryz.isAgg61
 z23 := Tryz.sizeOf61
 v23 := Tryz.zeroValue61
 t25 := Tryz.underlying3
 a25 := Tryz.isAgg3
 z25 := Tryz.sizeOf3
 v25 := Tryz.zeroValue3
 t32 := Tryz.underlying41
 a32 := Tryz.isAgg41
 z32 := Tryz.sizeOf41
 v32 := Tryz.zeroValue41
 t35 := Tryz.underlying222
 a35 := Tryz.isAgg222
 z35 := Tryz.sizeOf222
 v35 := Tryz.zeroValue222
 t36 := Tryz.underlying223
 a36 := Tryz.isAgg223
 z36 := Tryz.sizeOf223
 v36 := Tryz.zeroValue223
 t41 := Tryz.underlying95
 a41 := Tryz.isAgg95
 z41 := Tryz.sizeOf95
 v41 := Tryz.zeroValue95
 t44 := Tryz.underlying204
 a44 := Tryz.isAgg204
 z44 := Tryz.sizeOf204
 v44 := Tryz.zeroValue204
 t46 := Tryz.underlying81
 a46 := Tryz.isAgg81
 z46 := Tryz.sizeOf81
 v46 := Tryz.zeroValue81
 t53 := Tryz.underlying246
 a53 := Tryz.isAgg246
 z53 := Tryz.sizeOf246
 v53 := Tryz.zeroValue246
 t57 := Tryz.underlying249
 a57 := Tryz.isAgg249
 z57 := Tryz.sizeOf249
 v57 := Tryz.zeroValue249
 t63 := Tryz.underlying269
 a63 := Tryz.isAgg269
 z63 := Tryz.sizeOf269
 v63 := Tryz.zeroValue269
 t64 := Tryz.underlying139
 a64 := Tryz.isAgg139
 z64 := Tryz.sizeOf139
 v64 := Tryz.zeroValue139 }
end Go.Proofs

/-
 Contracts: the box (chapter 3): the names in their order; List; Crash.
-/
set_option maxRecDepth 100000
set_option linter.unusedVariables false
set_option linter.unusedSimpArgs false
namespace Go.Lf.G
open Go
abbrev Vr : FuncId := Dn
theorem AJ9 {A : Amb} {h : Heap} {mb : Option Nat} {R : Value → Heap → Prop} (H : ∀ T h', h'[h.size]? = some (.cells #[.map mb] T (0, 0)) → Ext h h' → h'.size = h.size + 1 → R (.func (.func Vr) #[] #[BC h.size]) h') :
  AA A P Aw #[.map mb] h R := by
 intro n
 have h0 := Proofs.AnyZ.keys_in Proofs.Tryz.keysA Fence.wide 5 trivial rfl mb (A.at h n)
 have h1 := callsIn_wide.1 h0
 refine Calls.mono h1 ?_
 rintro e w' ⟨rfl, rfl⟩
 refine ⟨_, rfl, h.push (.cells #[.map mb] (Proofs.Tryz.keysA_ren.t 23)), n, rfl, ?_⟩
 exact H (Proofs.Tryz.keysA_ren.t 23) (h.push (.cells #[.map mb] (Proofs.Tryz.keysA_ren.t 23))) (by simp) (Mod.push h _) (by simp)
theorem AKV (m : Nat) : Proofs.AnyZ.SortsIn P Proofs.Tryz.sortedA_ren Fence.wide m :=
 ⟨fun blk off cap ss W hH hblk hsz => callsIn_wide.2 (Proofs.AnyM.slices_Sort_string Proofs.Tryz.sortA blk off cap ss W hH hblk hsz),
 fun p cap W => callsIn_wide.2 (Proofs.AnyM.slices_Sort_string_none Proofs.Tryz.sortA p cap W)⟩
theorem AHC {A : Amb} {h : Heap} {c r : Nat} {T : TypeId} {m : List (ByteArray × Value)} {l : List ByteArray} {R : Value → Heap → Prop} (hc : h[c]? = some (.cells #[.map (some r)] T (0, 0))) (M : PY h r m)
  (hl : Vk l) (hp : (m.map (·.1)).Perm l) (hb : m.length ≤ 8796093022208)
  (H : ∀ s h', Own EC Ad h' s l → Ext h h' → (∀ b, s.blk = some b → h.size ≤ b) → R (.slice s.p s.len s.cap) h') :
  AA A P DJ #[.func (.func Vr) #[] #[BC c]] h R := by
 intro n
 obtain ⟨D, hown, hperm, hsize⟩ := AEa (P := P) (kt := Ad) Il (w := A.at h n) M
 have hseq : SeqGives Fence.wide 2 P Vr #[BC c] Proofs.encStr (fun ss => ss.Perm (strKeys D)) (Maps.size D) (A.at h n) :=
  Proofs.AnyZ.keys_gives (ρ := Proofs.Tryz.keysA_ren) { Proofs.Tryz.keysA with } Fence.wide _ trivial rfl (by omega) c r _ D _ (show c < h.size from Am hc) (by show hget h ⟨c, 0, none⟩ = _; rw [Hr hc]; rfl) hown
 have h0 := Proofs.AnyZ.sorted_in Proofs.Tryz.sortedA Fence.wide 5 trivial trivial trivial trivial rfl (by omega) (AKV _) (Proofs.enters_of Proofs.Tryz.func89 (by kernel_rfl) rfl) Vr #[BC c] trivial (Proofs.enters_of Proofs.Tryz.func90 (by kernel_rfl) rfl) _ _ (by rw [hsize]; simp [maxLen]; omega) (by rw [hsize]; omega) _ hseq
 have h1 := callsIn_wide.1 h0
 refine Calls.mono h1 ?_
 rintro e w' ⟨v, ss, rfl, hS, hrow, hnil, hbl⟩
 have hw' : w' = A.at w'.heap w'.drawn := AKO (A := A) (h := h) (n := n) rfl hbl.os hbl.tape hbl.output
 have hperm2 : ss.Perm (l.map fun x => x.data.toList) := by
  refine (hS.trans hperm).trans ?_
  have := hp.map fun x : ByteArray => x.data.toList
  simpa [List.map_map, Function.comp_def] using this
 have hsl : ss.length = l.length := by have := hperm2.length_eq; simpa using this
 rw [AEm hl hperm2, AGI] at hrow
 have hx : Ext h w'.heap := ⟨hbl.size, fun b hb _ => hbl.block b hb⟩
 rcases hrow.2 with ⟨rfl, h00⟩ | ⟨g, cap, cur, rfl, hgb, hg, hcc, hm, hs, ht⟩
 ·have : l = [] := List.eq_nil_of_length_eq_zero (by omega)
  subst this
  exact ⟨_, rfl, w'.heap, w'.drawn, hw', H ⟨none, 0, 0⟩ _ Own.nil hx (fun b hb => by simp [Sl.blk] at hb)⟩
 ·refine ⟨_, rfl, w'.heap, w'.drawn, hw', H ⟨some ⟨g, 0, none⟩, ss.length, cap⟩ _ ⟨hsl, .inr ⟨g, cur, rfl, hg, hcc, hm, hs, ht⟩⟩ hx (fun b hb => ?_)⟩
  simp [Sl.blk] at hb; subst hb; exact hgb
def X9 (m : Bx) : List ByteArray × Int := if m.down then ([], 30) else (m.files.map (·.name), 0)
theorem Cs.names {h : Heap} {b r : Nat} {kv : List (Fi × Nat)} {m : Bx} (B : Cs h b r kv m) : ((kvM kv).map (·.1)).Perm (m.files.map (·.name)) ∧ (kvM kv).length ≤ 8796093022208 := by
 refine ⟨?_, ?_⟩
 ·have := B.perm.map (·.name)
  simpa [kvM, List.map_map, Function.comp_def] using this
 ·have h1 := B.perm.length_eq
  have h2 := Nh m.files
  have h3 := B.good.wt
  simp at h1 ⊢
  omega
theorem Cs.sortedKeys {A : Amb} {h : Heap} {b r : Nat} {kv : List (Fi × Nat)} {m : Bx} (B : Cs h b r kv m) {R : Sl → Heap → Prop}
  (H : ∀ s h', Own EC Ad h' s (m.files.map (·.name)) → Ext h h' → (∀ c, s.blk = some c → h.size ≤ c) → R s h') :
  AA A P Aw #[.map (some r)] h fun v1 h2 => ∃ t10 : Value, v1 = t10 ∧ (
   AA A P DJ #[t10] h2 fun v2 h3 => ∃ t11 : Sl, v2 = .slice t11.p t11.len t11.cap ∧ R t11 h3) := by
 refine AJ9 fun T h1 hb1 x1 hs1 => ⟨_, rfl, ?_⟩
 refine AHC hb1 (B.map.mod x1 (fun h => h)) (Om.1 B.good.sorted) B.names.1 B.names.2 fun s h2 o2 x2 f2 => ⟨s, rfl, ?_⟩
 exact H s h2 o2 (x1.trans x2) (fun c hc => by have := f2 c hc; omega)
theorem ADX {A : Amb} {h : Heap} {b : Nat} {S : Nat → Prop} {m : Bx} {R : Value → Heap → Prop} (B : BV h b S m)
  (H : ∀ s h', Own EC Ad h' s (X9 m).1 → Ext h h' → (∀ c, s.blk = some c → h.size ≤ c) → R (.tuple #[.slice s.p s.len s.cap, .int .i64 (X9 m).2]) h') : AA A P GJ #[BC b] h R := by
 obtain ⟨r, kv, B, hS⟩ := B
 refine VP ?_
 unfold Ka
 refine V9 B.head ⟨_, rfl, ?_⟩
 unfold X9 at H
 refine PIf.intro (fun hd => ?_) (fun hd => ?_)
 ·rw [if_pos hd] at H; exact H ⟨none, 0, 0⟩ h Own.nil Mod.refl (fun c hc => by simp [Sl.blk] at hc)
 rw [if_neg (by simp [hd])] at H
 exact atI (FR.mk (AJ B.head rfl) (B.sortedKeys fun s h' o x f => H s h' o x f))
theorem Cs.add {h h' : Heap} {b r c : Nat} {kv : List (Fi × Nat)} {m : Bx} {x : Fi} {l : List Fi} (B : Cs h b r kv m) (M : PY h' r (kvM (kv ++ [(x, c)]))) (hc : h'[c]? = some (.cells #[.string x.firm, .string x.soft] KZ (0, 0)))
  (hn : h.size ≤ c) (md : Mod (· = r) h h') (hp : (x :: m.files).Perm l) (g : DK { m with files := l }) : Cs h' b r (kv ++ [(x, c)]) { m with files := l } := by
 refine ⟨md.blk B.head B.ne_br.symm, M, ?_, ?_, ?_, g⟩
 ·intro p hp
  rcases List.mem_append.1 hp with hp | hp
  ·exact md.blk (B.cells p hp) (B.ne_pb hp).2
  ·simp at hp; subst hp; exact hc
 ·rw [List.map_append]
  exact (List.perm_append_singleton _ _).trans ((B.perm.cons _).trans hp)
 ·rw [List.map_append]
  refine List.nodup_append.2 ⟨B.nodup, by simp, ?_⟩
  intro a ha c' hc'
  obtain ⟨p, hp, rfl⟩ := List.mem_map.1 ha
  simp at hc'; subst hc'
  have := Am (B.cells p hp); omega
theorem AGk {A : Amb} {h : Heap} {b : Nat} {S : Nat → Prop} {m : Bx} {keep : Sl} {ks : List Int} {R : Value → Heap → Prop} (B : BV h b S m) (V : View EZ h keep ks)
  (H : ∀ b' h' S', BV h' b S (Ii m) → BV h' b' S' (Qw m ks) → Mod S h h' → (∀ c, S' c → h.size ≤ c) → R (BC b') h') : AA A P G9 #[BC b, .slice keep.p keep.len keep.cap] h R := by
 obtain ⟨r, kv, B, hS⟩ := B
 refine Tn ?_
 unfold Jn
 refine PIf.no rfl ?_
 refine Pz fun bn h1 Sn Bn x1 fn => ⟨_, rfl, ?_⟩
 have B1 := B.mod x1 (fun _ _ h => h)
 refine atI (FR.mk (AJ B1.head rfl) (B1.sortedKeys (R := fun t19 h3 => Loop _ _ _) fun s h2 o2 x2 f2 => ?_))
 have hlen : m.files.length ≤ 8796093022208 := by have := Nh m.files; have := B.good.wt; omega
 have x02 : Ext h h2 := x1.trans x2
 have hsn : ∀ c, s.blk = some c → ¬ Sn c := fun c hc hs => by have := Bn.lt hs; have := f2 c hc; omega
 obtain ⟨rn, kvn, Bn, hSn⟩ := Bn
 have hfn : ∀ c, Ei bn rn kvn c → h.size ≤ c ∧ c < h1.size := fun c hc => ⟨fn c ((hSn c).2 hc), Bn.lt hc⟩
 refine Loop.rule (fun q x hh => ∃ (i : Nat) (kvi : List (Fi × Nat)), x = (((cntF 0 (m.files.take i) : Nat) : Int), (i : Int), ()) ∧ q = m.files.length - i ∧ i ≤ m.files.length ∧
  Cs hh bn rn kvi ⟨Cg ks 0 (m.files.take i), -1, false⟩ ∧ (∀ c, Ei bn rn kvi c → Ei bn rn kvn c ∨ h2.size ≤ c) ∧ Mod (Ei bn rn kvn) h2 hh) ?_
  ⟨0, kvn, rfl, rfl, by omega, by simpa [Cg, AE0] using Bn.mod x2 (fun _ _ h => h), fun c hc => .inl hc, Mod.refl⟩
 rintro K q _ hh ⟨i, kvi, rfl, rfl, hi, Bi, hki, mi⟩ hK
 have m0 : Ext h hh := (x02.mod.trans mi).weak' fun c hc hf => by have := hfn c hf; omega
 have Bh := B.mod m0 (fun _ _ h => h)
 refine PIf.intro (fun hq => ?_) (fun hq => ?_)
 ·have hil : i < m.files.length := by simpa [o2.len] using hq
  have hgi := List.getElem?_eq_getElem hil
  generalize m.files[i] = f at hgi
  have hmem : f ∈ m.files := List.mem_of_getElem? hgi
  have oh : Own EC Ad hh s (m.files.map (·.name)) := o2.mod mi fun c hc hf => by have := f2 c hc; have := hfn c hf; omega
  refine Join.mk fun K1 hK1 => ?_
  refine oh.view.idx (i := i) (x := f.name) (by simp [hgi]) fun a ha ca => AC.mk ca.str ?_
  refine atI (FR.mk (AJ Bh.head rfl) (KH SV Il AAS Bh.map ?_))
  have hfind := B.good.sorted.find hmem
  rcases Bh.look f.name with ⟨k1, k2⟩ | ⟨p, hp, k1, k2, k3⟩
  ·rw [hfind] at k2; cases k2
  rw [hfind] at k2
  have hpf : p.1 = f := (Option.some.inj k2).symm
  rw [k1]
  refine ⟨some ⟨p.2, 0, none⟩, rfl, ?_⟩
  have hc := Bh.cells p hp
  rw [hpf] at hc
  have hcount := AFi (m.files.take i) 0
  have hti : (m.files.take i).length = i := by simp; omega
  have hsnoc : m.files.take (i + 1) = m.files.take i ++ [f] := by rw [List.take_add_one, hgi]; rfl
  have hfw := Rp hmem
  have hwt := B.good.wt
  refine atI (AC.mk (AJ hc rfl) (Join.mk fun K2 hK2 => ?_))
  have next : ∀ h5 kv5, Cs h5 bn rn kv5 ⟨Cg ks 0 (m.files.take (i + 1)), -1, false⟩ → (∀ c, Ei bn rn kv5 c → Ei bn rn kvn c ∨ h2.size ≤ c) → Mod (Ei bn rn kvn) h2 h5 → K1 (((LP (cntF 0 (m.files.take i)) f : Nat) : Int), ()) h5 := fun h5 kv5 B5 e5 m5 => by
   refine hK1 _ _ (hK (m.files.length - (i + 1)) _ _ (by omega) ⟨i + 1, kv5, ?_, rfl, by omega, B5, e5, m5⟩)
   rw [AR (by omega), hsnoc, AGj]
  have keep2 : K2 (((LP (cntF 0 (m.files.take i)) f : Nat) : Int), Me ks (cntF 0 (m.files.take i)) f, ()) hh := hK2 _ _ (by
   rw [BR]
   have hsn2 := ADu ks (m.files.take i) f
   rw [← hsnoc] at hsn2
   unfold Yy at hsn2
   refine PIf.intro (fun hq => ?_) (fun hq => ?_)
   ·have hq : ¬ Me ks (cntF 0 (m.files.take i)) f = bs0 := by simpa using hq
    rw [if_neg hq] at hsn2
    refine atI (FR.mk (AJ Bi.head rfl) (New.mk fun h5 _ hb5 x5 hs5 => ?_))
    have B5 := Bi.mod x5 (fun _ _ h => h)
    have hnew : OL f.name (kvM kvi) = none := by
     rcases Bi.look f.name with ⟨k1, _⟩ | ⟨p', _, _, k2', k3'⟩
     ·exact k1
     ·exfalso
      have hm := (GY k2').2
      obtain ⟨f', hf', e'⟩ := Kc hm
      rw [k3'] at e'
      obtain ⟨j, hj, e2⟩ := List.getElem_of_mem hf'
      have hji : j < i := by simp at hj; omega
      have hs := List.pairwise_iff_getElem.1 B.good.sorted j i (by omega) hil hji
      have e3 : m.files[j] = f' := by simpa using e2
      have e4 : m.files[i] = f := by have := List.getElem?_eq_getElem hil; rw [hgi] at this; exact (Option.some.inj this).symm
      rw [e3, e4, e'] at hs
      exact Js hs rfl
    have hkl : (kvM kvi).length ≤ i := by
     have h1 := Bi.perm.length_eq
     have h2 : (Cg ks 0 (m.files.take i)).length ≤ (m.files.take i).length := YS
     simp at h1 ⊢; simp at h1 h2; omega
    refine AAO SV Il B5.map (by have := B.good.names f hmem; simp [maxLen]; omega) (by simp only [maxLen]; omega) fun h6 M6 m6 hs6 => ?_
    rw [Xj hnew] at M6
    have hrl := B5.map.lt
    have hb6 := m6.blk hb5 (by have := Bi.map.lt; omega)
    have B6 := Cs.add (x := ⟨f.name, Me ks (cntF 0 (m.files.take i)) f, bs0⟩) (c := hh.size) (l := Cg ks 0 (m.files.take (i + 1))) Bi (by rw [kvM, List.map_append]; exact M6) hb6 (Nat.le_refl _) (x5.mod.trans m6)
     (by rw [hsn2]; exact (List.perm_append_singleton _ _).symm) (by
      have hg : DK (Qw { m with files := m.files.take (i + 1) } ks) := by
       refine DK.crash (m := { m with files := m.files.take (i + 1) }) ⟨B.good.sorted.sublist (List.take_sublist _ _), fun f2 hf2 => B.good.names f2 (List.mem_of_mem_take (i := i + 1) hf2), B.good.lo, B.good.hi, ?_⟩
       have := ACe (i + 1) m.files
       show wtF (m.files.take (i + 1)) ≤ 8796093022208
       omega
      exact hg)
    refine next h6 _ B6 ?_ ((mi.trans x5.mod).trans (m6.weak fun c _ hc => ?_))
    ·intro c hc
     rcases hc with hc | hc | ⟨p', hp', rfl⟩
     ·exact .inl (.inl hc)
     ·exact .inl (.inr (.inl hc))
     ·rcases List.mem_append.1 hp' with hp' | hp'
      ·exact hki _ (.inr (.inr ⟨p', hp', rfl⟩))
      ·simp at hp'; subst hp'; exact .inr mi.size
    ·exact .inr (.inl hc)
   ·have hq : Me ks (cntF 0 (m.files.take i)) f = bs0 := by simpa using hq
    rw [if_pos hq, List.append_nil] at hsn2
    exact next hh kvi (by rw [hsn2]; exact Bi) hki mi)
  refine atI (AC.mk (AB hc rfl) ?_)
  rw [BR]
  unfold Me LP at keep2
  refine PIf.intro (fun hq => ?_) (fun hq => ?_)
  ·have hq : ¬ f.soft = bs0 := by simpa using hq
   rw [if_neg hq, if_neg hq] at keep2
   refine Join.mk fun K3 hK3 => ?_
   have k3 : ∀ x, x = (match ks[cntF 0 (m.files.take i)]? with | some n => f.firm ++ f.soft.extract 0 (min n.toNat f.soft.size) | none => f.firm) → K3 (x, ()) hh := fun x hx => hK3 _ _ (by
    rw [AR (by omega), hx]; exact keep2)
   refine PIf.intro (fun hq2 => ?_) (fun hq2 => ?_)
   ·have hkl : cntF 0 (m.files.take i) < ks.length := by simpa [V.len] using hq2
    have hgk := List.getElem?_eq_getElem hkl
    generalize ks[cntF 0 (m.files.take i)] = n at hgk
    rw [hgk] at k3
    have Vh := V.ext m0
    refine atI (AC.mk (AB hc rfl) (Vh.idx hgk fun a _ ca => AZ.mk ca.int (atI (AC.mk (AB hc rfl) ?_))))
    have e : (if ((if ((f.soft.size : Int) : Int) < n then (f.soft.size : Int) else n) : Int) > 0 then (if ((f.soft.size : Int) : Int) < n then (f.soft.size : Int) else n) else 0) = ((min n.toNat f.soft.size : Nat) : Int) := by
     split <;> split <;> omega
    rw [e]
    refine ⟨⟨by omega, by omega⟩, ?_, ?_⟩
    ·rw [max_i64, ByteArray.size_extract]; omega
    ·exact k3 _ rfl
   ·have hkl : ks.length ≤ cntF 0 (m.files.take i) := by simpa [V.len] using hq2
    refine k3 _ ?_
    rw [List.getElem?_eq_none hkl]
  ·have hq : f.soft = bs0 := by simpa using hq
   rw [if_pos hq, if_pos hq] at keep2
   exact keep2
 ·have hil : i = m.files.length := by simp [o2.len] at hq; omega
  subst hil
  rw [List.take_length] at Bi
  refine atI (Store.mk1 Bh.head (by simp) fun h5 hb5 m5 hs5 => ?_)
  have B5 := Bh.hd (m' := Ii m) (by simpa [Ii] using hb5) m5 rfl B.good.off
  refine H bn h5 (Ei bn rn kvi) ⟨r, kv, B5, hS⟩ ⟨rn, kvi, Bi.mod m5 ?_, fun _ => Iff.rfl⟩ (m0.mod.trans (m5.weak fun c _ hc => (hS c).2 (.inl hc))) ?_
  ·rintro c hc rfl
   have hbl := Am B.head
   rcases hki _ hc with h | h
   ·have := hfn _ h; omega
   ·have := x02.size; omega
  ·intro c hc
   rcases hki c hc with h | h
   ·exact (hfn _ h).1
   ·have := x02.size; omega
end Go.Lf.G

