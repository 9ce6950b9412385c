/-
 The skip list: asking; the statements MemRuns and MemStops over the formulas.
-/
import Derived.Test.YtdmlhpjdmgaggaaGreatDoorLfM10ToM11
import Derived.Test.YtdmlhpjdmgaggaaGreatDoorLfX2ToM2
import Derived.Test.YtdmlhpjdmgaggaaGreatDoorLfY5ToS3
import Derived.Test.YtdmlhpjdmgaggaaGreatDoorLfU3ToB1
import Derived.Test.YtdmlhpjdmgaggaaGreatDoorLfS1aToU17
set_option linter.unusedVariables false
set_option linter.unusedSimpArgs false
set_option maxRecDepth 100000
namespace Go.Lf.G.M
open Go Go.Lf Go.Lf.G
theorem AFy {A : Amb} {h : Heap} {t : Nat} {ns : List CK} {l : List Pr} {R : Value → Heap → Prop} (T : Tab h t ns l) (H : R (.tuple #[.int .i64 (l.length : Int), .int .i64 (DF l : Int)]) h) : AA A P FU #[.pointer (some ⟨t, 0, none⟩)] h R := by
 obtain ⟨nx, L, _⟩ := T.lay
 refine Tq ?_
 unfold Jp
 refine PIf.no rfl ?_
 exact AZ.mk (AB L.head XC.1) (AZ.mk (AB L.head XC.2) H)
def Pb : Pr := ⟨⟨#[]⟩, ⟨#[]⟩, false⟩
def Jr (key : ByteArray) (l : List Pr) : Pr × Bool := match l[atK key l]? with | some q => if q.key = key then (q, true) else (Pb, false) | none => (Pb, false)
theorem three {h : Heap} {b : Nat} {T : TypeId} {c0 c1 c2 : Value} {k v : ByteArray} {g : Bool} {K : Heap → Prop} (hb : h[b]? = some (.cells #[c0, c1, c2] T (0, 0)))
  (H : ∀ h', h'[b]? = some (.cells #[.string k, .string v, .bool g] T (0, 0)) → Mod (fun c => c = b) h h' → K h') :
  Store h ⟨b, 0, none⟩ (.string k) fun h2 => Store h2 ((⟨b, 0, none⟩ : Addr).add 1) (.string v) fun h3 => Store h3 ((⟨b, 0, none⟩ : Addr).add 2) (.bool g) fun h4 => K h4 := by
 refine Store.mk hb (by simp) fun h2 hb2 m2 hs2 => ?_
 rw [Bw, Bw]
 refine Store.mk hb2 (by simp) fun h3 hb3 m3 hs3 => ?_
 refine Store.mk hb3 (by simp) fun h4 hb4 m4 hs4 => ?_
 exact H h4 (by simpa using hb4) ((m2.trans m3).trans m4)
theorem Zd {h h' : Heap} {t : Nat} {ns : List CK} {nx : Nat → Nat → Option Addr} {n sz : Int} {key : ByteArray} {q : Nat → Nat} (L : Lay h t ns nx n sz) (K : Zu ns nx) (hq : ∀ i, i < 12 → P6 ns key i (q i)) (x : Ext h h') :
  hget h' (((addrAt t ns (q 0)).add 3).add (0 * 1)) = some (.pointer ((ns[atK key (prs ns)]?).map fun y => ⟨y.blk, 0, none⟩)) := by
 have hq0 := Before.zero K.ht (hq 0 (by omega))
 have hak := TM key ns
 have h1 := (L.ext x).next (p := q 0) (i := 0) (by rw [hq0]; exact hak) (by omega)
 rw [h1, K.link (q 0) 0 (by rw [hq0]; exact hak) (by omega) (hq 0 (by omega)).ht, hq0, NN K.ht]
theorem AJB {A : Amb} {h : Heap} {t : Nat} {ns : List CK} {l : List Pr} {key : ByteArray} {R : Value → Heap → Prop} (T : Tab h t ns l) (H : ∀ h', Ext h h' → R (.tuple #[(Jr key l).1.agg, .bool (Jr key l).2]) h') :
  AA A P G8 #[.pointer (some ⟨t, 0, none⟩), .string key] h R := by
 obtain ⟨nx, L, Kl⟩ := T.lay
 refine Ue ?_
 unfold Ji
 refine New.mk fun h1 _ hb hx1 hs1 => PIf.no rfl ?_
 have hss : Sorted (prs ns) := by rw [T.prs]; exact T.sorted
 refine Uc (L.ext hx1) Kl hss fun q h5 hq x5 => ⟨_, _, _, _, _, _, _, _, _, _, _, _, rfl, ?_⟩
 refine atI ⟨by omega, AU.mk (Zd (L.ext hx1) Kl hq x5) ?_⟩
 have hb5 := x5.blk hb (by simp)
 have x05 : Ext h h5 := hx1.trans x5
 have L5 := L.ext x05
 have hget : Jr key l = match ns[atK key (prs ns)]? with | some y => if y.pr.key = key then (y.pr, true) else (Pb, false) | none => (Pb, false) := by
  unfold Jr
  rw [← T.prs]
  rw [show prs ns = ns.map (·.pr) from rfl, List.getElem?_map]
  cases ns[atK key (ns.map (·.pr))]? <;> rfl
 have hfin : ∀ (g : Pr) (b : Bool) h9, h9[h.size]? = some (.cells #[.string g.key, .string g.val, .bool g.gone] AO (0, 0)) → Mod (fun c => c = h.size) h5 h9 → Jr key l = (g, b) →
   (AC h9 (⟨h.size, 0, none⟩ : Addr) fun r0 => AC h9 ((⟨h.size, 0, none⟩ : Addr).add 1) fun r1 => AY h9 ((⟨h.size, 0, none⟩ : Addr).add 2) fun r2 => R (.tuple #[.agg #[.string r0, .string r1, .bool r2], .bool b]) h9) := fun g b h9 hb9 m9 e => by
  refine AC.mk (AJ hb9 rfl) (AC.mk (AB hb9 rfl) (AY.mk (AB hb9 rfl) ?_))
  have := H h9 (x05.then (m9.weak fun c _ hc => .inr (by omega)))
  rw [e] at this
  exact this
 refine Join.mk fun K hK => ?_
 have hno : Jr key l = (Pb, false) → K (false, ()) h5 := fun e => hK _ _ (PIf.no rfl (three hb5 fun h9 hb9 m9 => hfin Pb false h9 hb9 m9 e))
 cases hy : ns[atK key (prs ns)]? with
 | none =>
  rw [hy] at hget
  exact PIf.no rfl (hno hget)
 | some y =>
  rw [hy] at hget
  refine PIf.yes rfl (atI ?_)
  have hrow := L5.pair hy
  refine AC.mk hrow.1 ?_
  rw [BR]
  by_cases hk : y.pr.key = key
  ·rw [decide_eq_true hk]
   refine hK _ _ (PIf.yes rfl ?_)
   rw [hy]
   refine atI (AC.mk hrow.1 (AC.mk hrow.2.1 (AY.mk hrow.2.2 ?_)))
   simp only [hk, if_true] at hget
   exact three hb5 fun h9 hb9 m9 => hfin y.pr true h9 hb9 m9 hget
  ·rw [decide_eq_false hk]
   simp only [hk, if_false] at hget
   exact hno hget
theorem ALP {y c d : Value} : (#[] ++ #[y] ++ #[c, d] : Array Value) = #[y, c, d] := rfl
theorem AIz {A : Amb} {h0 : Heap} {b c t : Nat} {T T' : TypeId} {fr fr' : Nat × Nat} {ns : List CK} {l : List Pr} {key : ByteArray} (hb : h0[b]? = some (.cells #[.pointer (some ⟨t, 0, none⟩)] T fr)) (hc : h0[c]? = some (.cells #[.string key] T' fr')) (Tb : Tab h0 t ns l) :
  Cw A P (.func (.func FC) #[] #[.pointer (some ⟨b, 0, none⟩), .pointer (some ⟨c, 0, none⟩)]) (fun d => inT t ns d ∨ d = b ∨ d = c) h0 (l.drop (atK key l)) := by
 refine ⟨?_, _, _, rfl, fun yv => by kernel_rfl, fun h hS yv J O hy hd hB hY hJ => ?_⟩
 ·rintro d (hd | rfl | rfl)
  ·exact Tb.lt hd
  ·exact Am hb
  ·exact Am hc
 rw [ALP]
 refine QX ?_
 unfold Ht
 have hbh := (hS b (.inr (.inl rfl))).trans hb
 have hch := (hS c (.inr (.inr rfl))).trans hc
 obtain ⟨nx, L0, Kl⟩ := Tb.lay
 have L : Lay h t ns nx (l.length : Int) (DF l : Int) :=
  ⟨(hS t (.inl (.inl rfl))).trans L0.head, fun j x hx => ⟨(hS x.blk (.inl (.inr ⟨x, List.mem_of_getElem? hx, rfl⟩))).trans (L0.node j x hx).1, (L0.node j x hx).2⟩, L0.apart⟩
 have hdO : ∀ d, inT t ns d → ¬ O d := fun d hd' => hd d (.inl hd')
 refine AU.mk (AJ hbh rfl) (PIf.no rfl (AU.mk (AJ hbh rfl) (AC.mk (AJ hch rfl) ?_)))
 have hss : Sorted (prs ns) := by rw [Tb.prs]; exact Tb.sorted
 refine Uc L Kl hss fun q h1 hq x1 => ⟨_, _, _, _, _, _, _, _, _, _, _, _, rfl, ?_⟩
 refine atI ⟨by omega, AU.mk (Zd L Kl hq x1) ?_⟩
 have hal : atK key (prs ns) = atK key l := by rw [Tb.prs]
 have hle := Qx key l
 have hnl : ns.length = l.length := by rw [← Tb.prs]; simp
 rw [hal]
 have hJ1 := hB.stable _ _ _ _ _ hJ (x1.weak (S' := fun b => ¬ O b ∧ h.size ≤ b) fun _ _ h => h.elim)
 refine Loop.rule (fun m x hh => ∃ (j : Nat) (O1 : Nat → Prop), x = ((ns[atK key l + j]?).map fun y => (⟨y.blk, 0, none⟩ : Addr), ()) ∧ m = l.length - (atK key l + j) ∧ atK key l + j ≤ l.length ∧ Mod O h hh ∧ (∀ b, O1 b → O b ∨ h.size ≤ b) ∧ J j true O1 hh) ?_
  ⟨0, O, rfl, rfl, by omega, x1.mod, fun b hb => .inl hb, hJ1⟩
 rintro K m _ hh ⟨j, O1, rfl, rfl, hj, md, hsub, hjj⟩ hK
 have hdl : (l.drop (atK key l)).length = l.length - atK key l := by simp
 cases hy : ns[atK key l + j]? with
 | none =>
  have := List.getElem?_eq_none_iff.1 hy
  refine PIf.no rfl ?_
  exact ⟨rfl, j, true, O1, md, hsub, hjj, fun _ => by rw [hdl]; omega, by rw [hdl]; omega⟩
 | some y =>
  have hlt := (List.getElem?_eq_some_iff.1 hy).1
  have hrow := (L.mod md hdO).pair hy
  refine PIf.yes rfl (atI (AC.mk hrow.1 (AC.mk hrow.2.1 (AY.mk hrow.2.2 ?_))))
  have hget : (l.drop (atK key l))[j]? = some y.pr := by
   rw [List.getElem?_drop]
   have h5 : (prs ns)[atK key l + j]? = some y.pr := by rw [show prs ns = ns.map (·.pr) from rfl, List.getElem?_map, hy]; rfl
   rw [Tb.prs] at h5
   exact h5
  refine Eh.mono (hY j y.pr O1 hh hget hjj) ?_
  rintro _ h3 ⟨g, O2, rfl, hsub2, m3, hj3⟩
  have szm := md.size
  have hsub3 : ∀ b, O2 b → O b ∨ h.size ≤ b := fun b hb => (hsub2 b hb).elim (hsub b) fun h1 => .inr (by omega)
  have md3 : Mod O h h3 := md.then (m3.weak fun b _ hb => hsub b hb)
  refine ⟨g, rfl, PIf.intro (fun hq => ?_) (fun hq => ?_)⟩
  ·have hg : g = false := by simpa using hq
   subst hg
   exact ⟨rfl, j + 1, false, O2, md3, hsub3, hj3, (fun h => by cases h), by rw [hdl]; omega⟩
  ·have hg : g = true := by simpa using hq
   subst hg
   refine atI ⟨by omega, ?_⟩
   have hnx := (L.mod md3 hdO).next (p := atK key l + j + 1) (i := 0) (by omega) (by omega)
   have ea : addrAt t ns (atK key l + j + 1) = ⟨y.blk, 0, none⟩ := by simp [addrAt, hy]
   rw [ea, Kl.link _ 0 (by omega) (by omega) (by have := (Kl.ht y (List.mem_of_getElem? hy)).1; simp [OP, hy]; omega), NN Kl.ht] at hnx
   refine AU.mk hnx ?_
   exact hK (l.length - (atK key l + (j + 1))) _ _ (by omega) ⟨j + 1, O2, rfl, rfl, by omega, md3, hsub3, hj3⟩
theorem ACt {A : Amb} {h : Heap} {t : Nat} {ns : List CK} {l : List Pr} {key : ByteArray} {R : Value → Heap → Prop} (T : Tab h t ns l)
  (H : ∀ fv h', Cw A P fv (fun d => inT t ns d ∨ d = h.size ∨ d = h.size + 1) h' (l.drop (atK key l)) → Ext h h' → h'.size = h.size + 2 → R fv h') : AA A P FB #[.pointer (some ⟨t, 0, none⟩), .string key] h R := by
 refine SY ?_
 unfold I4
 refine New.mk fun h1 _ hb1 x1 hs1 => New.mk fun h2 _ hb2 x2 hs2 => ?_
 have x02 : Ext h h2 := x1.trans x2
 have hh := AIz (A := A) (x2.blk hb1 (by simp)) hb2 (T.ext x02) (key := key)
 refine H _ h2 (hh.weak ?_ ?_ (fun c _ => rfl)) x02 (by omega)
 ·rintro d (hd | rfl | rfl)
  ·exact .inl hd
  ·exact .inr (.inl rfl)
  ·exact .inr (.inr hs1)
 ·rintro d (hd | rfl | rfl)
  ·exact (T.ext x02).lt hd
  ·omega
  ·omega
theorem AGm (l : List Pr) : atK ⟨#[]⟩ l = 0 := by
 have : ∀ x : ByteArray, sLt x ⟨#[]⟩ = false := fun x => by
  have e : (⟨#[]⟩ : ByteArray).toList = [] := by simp [ByteArray.toList_eq]
  unfold sLt
  rw [e]
  cases x.toList <;> rfl
 cases l with
 | nil => rfl
 | cons x l => simp [atK, Yr, this]
theorem YU (l : List Pr) : l.drop (atK ⟨#[]⟩ l) = l := by rw [AGm]; rfl
def qb : Pr := ⟨⟨#[98]⟩, ⟨#[49]⟩, false⟩
end Go.Lf.G.M

/-
 Contracts: a table is read.
-/
set_option maxRecDepth 100000
set_option linter.unusedVariables false
set_option linter.unusedSimpArgs false
namespace Go.Lf.G
open Go
open M (atK Ah Sorted CZ)
theorem AKd (a b : ByteArray) : (!(sLt a b || sEq a b)) = sLt b a := by
 cases h : sLt b a with
 | true =>
  have h1 : sLt a b = false := by
   cases h2 : sLt a b with
   | false => rfl
   | true => have := CP h h2; rw [BX] at this; cases this
  have h2 : sEq a b = false := by
   rw [BR, decide_eq_false_iff_not]
   rintro rfl
   rw [BX] at h; cases h
  rw [h1, h2]; rfl
 | false =>
  cases h1 : sLt a b with
  | true => rfl
  | false =>
   have := J7 h1 h
   subst this
   rw [BR]; simp
theorem AAz {a b c : ByteArray} (h1 : sLt a b = true) (h2 : sLt c b = false) : sLt a c = true := by
 cases h : sLt a c with
 | true => rfl
 | false =>
  cases h3 : sLt c a with
  | true => rw [CP h3 h1] at h2; cases h2
  | false =>
   have := J7 h h3
   subst this
   rw [h1] at h2; cases h2
theorem YN {l : List Pr} (h : Sorted l) {i j : Nat} {p q : Pr} (hp : l[i]? = some p) (hq : l[j]? = some q) (hij : i < j) : sLt p.key q.key = true := by
 obtain ⟨h1, rfl⟩ := List.getElem?_eq_some_iff.1 hp
 obtain ⟨h2, rfl⟩ := List.getElem?_eq_some_iff.1 hq
 exact List.pairwise_iff_getElem.1 h _ _ h1 h2 hij
structure AKH (l : List Pr) (key : ByteArray) (B : Nat) : Prop where
 lt : B < BM l
 below : ∀ (x : Nat) (p : Pr), x < 8 * B → l[x]? = some p → sLt p.key key = true
 there : ∀ (x : Nat) (p : Pr), l[x]? = some p → p.key = key → 8 * B ≤ x ∧ x < 8 * B + 8
theorem AKX {l : List Pr} {key : ByteArray} {k : Nat} (hs : Sorted l) (hne : l ≠ []) (hk : k ≤ BM l) (h1 : ∀ j, j < k → sLt key (GA l (8 * j)) = false) (h2 : k < BM l → sLt key (GA l (8 * k)) = true) : AKH l key (k - 1) := by
 have hN := ACV hne
 have hget : ∀ j, j < BM l → ∃ q, l[8 * j]? = some q ∧ GA l (8 * j) = q.key := by
  intro j hj
  have : 8 * j < l.length := by unfold BM at hj; omega
  exact ⟨l[8 * j], List.getElem?_eq_getElem this, by unfold GA; rw [List.getElem?_eq_getElem this]⟩
 have hb : ∀ (x : Nat) (p : Pr), x < 8 * (k - 1) → l[x]? = some p → sLt p.key key = true := by
  intro x p hx hp
  obtain ⟨q, hq, e⟩ := hget (k - 1) (by omega)
  have hlt := YN hs hp hq hx
  have := h1 (k - 1) (by omega)
  rw [e] at this
  exact AAz hlt this
 refine ⟨by omega, hb, fun x p hp e => ⟨?_, ?_⟩⟩
 ·apply Nat.le_of_not_lt
  intro hx
  have := hb x p hx hp
  rw [e, BX] at this; cases this
 ·apply Nat.lt_of_not_le
  intro hx
  have hxl := (List.getElem?_eq_some_iff.1 hp).1
  have step : ∀ j, 8 * j ≤ x → j < BM l → sLt key (GA l (8 * j)) = true → False := by
   intro j hj hjn hlt
   obtain ⟨q, hq, e2⟩ := hget j hjn
   rw [e2] at hlt
   rcases Nat.lt_or_ge (8 * j) x with h | h
   ·have := YN hs hq hp h
    have := CP hlt this
    rw [e, BX] at this; cases this
   ·have : 8 * j = x := by omega
    rw [this, hp] at hq
    cases hq
    rw [e, BX] at hlt; cases hlt
  have hkn : k < BM l := by unfold BM; omega
  exact step k (by omega) hkn (h2 hkn)
theorem AJR {i j : Nat} (h : i + j ≤ 2 * 1099511627776) : IntKind.wrap .i64 ((IntKind.wrap .u64 (IntKind.wrap .i64 (((i : Nat) : Int) + ((j : Nat) : Int)))).fdiv ((2 : Int) ^ (1 : Nat))) = (((i + j) / 2 : Nat) : Int) := by
 rw [show ((i : Nat) : Int) + ((j : Nat) : Int) = ((i + j : Nat) : Int) by omega, FV (by omega), DD (by omega), Mh, FV (by omega)]
theorem AGX {A : Amb} {h : Heap} {fv : Value} {n : Nat} {p : Nat → Bool} {R : Value → Heap → Prop} (hn : n ≤ 1099511627776) (hmono : ∀ i j, i ≤ j → j < n → p i = true → p j = true)
  (hcall : ∀ i hh, i < n → Ext h hh → Eh A P fv #[.int .i64 (i : Int)] hh fun v h' => v = .bool (p i) ∧ Ext hh h')
  (H : ∀ k h', k ≤ n → (∀ j, j < k → p j = false) → (k < n → p k = true) → Ext h h' → R (.int .i64 (k : Int)) h') : AA A P JH #[.int .i64 (n : Int), fv] h R := by
 refine Wq ?_
 unfold Lr
 refine Loop.rule (fun m x hh => ∃ i j : Nat, x = ((i : Int), (j : Int), ()) ∧ m = j - i ∧ i ≤ j ∧ j ≤ n ∧ (∀ a, a < i → p a = false) ∧ (j < n → p j = true) ∧ Ext h hh) ?_ ⟨0, n, rfl, rfl, by omega, Nat.le_refl _, fun a ha => by omega, fun h => by omega, Mod.refl⟩
 rintro K m _ hh ⟨i, j, rfl, rfl, hij, hj, hlo, hhi, xx⟩ hK
 dsimp only
 refine PIf.intro (fun hq => ?_) (fun hq => ?_)
 ·have hij : i < j := by simp at hq; omega
  rw [AJR (by omega)]
  refine Join.mk fun K1 hK1 => ?_
  have hm : (i + j) / 2 < n := by omega
  refine Eh.mono (hcall _ hh hm xx) ?_
  rintro v h' ⟨rfl, x'⟩
  refine ⟨_, rfl, PIf.intro (fun hb => ?_) (fun hb => ?_)⟩
  ·have hb : p ((i + j) / 2) = false := by simpa using hb
   refine hK1 _ _ ?_
   dsimp only
   rw [AR (by omega)]
   refine hK (j - ((i + j) / 2 + 1)) _ _ (by omega) ⟨(i + j) / 2 + 1, j, rfl, rfl, by omega, hj, fun a ha => ?_, hhi, xx.trans x'⟩
   cases h : p a with
   | false => rfl
   | true => rw [hmono a _ (by omega) hm h] at hb; cases hb
  ·have hb : p ((i + j) / 2) = true := by simpa using hb
   refine hK1 _ _ ?_
   exact hK ((i + j) / 2 - i) _ _ (by omega) ⟨i, (i + j) / 2, rfl, rfl, by omega, by omega, hlo, fun _ => hb, xx.trans x'⟩
 ·have hij : i = j := by simp at hq; omega
  subst hij
  exact H i hh hj hlo hhi xx
abbrev ADd : FuncId := EJ
theorem ACg {A : Amb} {h : Heap} {t lo hi : Nat} {l : List Pr} {f : List UInt8} {key : ByteArray} {R : Value → Heap → Prop} (T : TabAt h t l f lo hi) (S : WG (wraps (framesT l f)) l f)
  (H : ∀ h' B, AKH l key B → Ext h h' → R (.int .i64 (B : Int)) h') : AA A P Du #[BC t, .string key] h R := by
 refine PW ?_
 unfold Gw
 refine New.mk fun h1 _ hb1 x1 hs1 => New.mk fun h2 _ hb2 x2 hs2 => ?_
 have hb1' := Ab x2 hb1
 have x02 := x1.trans x2
 obtain ⟨fs, bs, ht, vf, vb, _, _⟩ := (T.ext x02).at_
 refine AU.mk (AJ hb1' rfl) (atI ?_)
 refine AQ.mk (s := fs) (AJ ht rfl) ?_
 have hfl : fs.len = BM l := by rw [vf.len, FJ]
 have hmany := S.many
 have hN : BM l ≤ 12501 := by unfold BM; omega
 rw [hfl]
 have hkey : ∀ j, j < BM l → ∃ q, l[8 * j]? = some q ∧ GA l (8 * j) = q.key := by
  intro j hj
  have : 8 * j < l.length := by unfold BM at hj; omega
  exact ⟨l[8 * j], List.getElem?_eq_getElem this, by unfold GA; rw [List.getElem?_eq_getElem this]⟩
 refine AGX (p := fun j => sLt key (GA l (8 * j))) (by omega) (fun i j hij hj hp => ?_) (fun i hh hi xh => ?_) fun k h3 hk h1 h2' x3 => ⟨_, rfl, ?_⟩
 ·rcases Nat.lt_or_ge i j with h | h
  ·obtain ⟨q1, e1, e2⟩ := hkey i (by omega)
   obtain ⟨q2, e3, e4⟩ := hkey j hj
   have := YN S.inc e1 e3 (by omega)
   rw [e2] at hp
   rw [e4]
   exact CP hp this
  ·have : i = j := by omega
   rw [this] at hp; exact hp
 ·have hcv := Eh.func (A := A) (P := P) (f := ADd) (first := #[]) (caps := #[BC h.size, BC h1.size]) (args := #[.int .i64 (i : Int)]) (h := hh) (R := fun v h' => v = .bool (sLt key (GA l (8 * i))) ∧ Ext hh h') (by kernel_rfl) ?_
  ·exact hcv
  ·show AA A P ADd #[.int .i64 (i : Int), BC h.size, BC h1.size] hh _
   refine Na ?_
   unfold Fg
   refine atI (AU.mk (AJ (Ab xh hb1') rfl) (atI ?_))
   refine AQ.mk (s := fs) (AJ (Ab xh ht) rfl) ?_
   refine (vf.ext xh).idx (Mx hi) fun a ha hc => ?_
   rw [Int.toNat_natCast]
   refine AC.mk hc.str (atI ?_)
   refine AC.mk (AJ (Ab xh hb2) rfl) ?_
   rw [AKd]
   exact ⟨rfl, Mod.refl⟩
 ·have e : (if ((IntKind.wrap .i64 (((k : Nat) : Int) - (1 : Int))) : Int) > 0 then (IntKind.wrap .i64 (((k : Nat) : Int) - (1 : Int))) else 0) = ((k - 1 : Nat) : Int) := by
   rw [wrap_i64 (by omega) (by omega)]
   split <;> omega
  rw [e]
  exact H h3 (k - 1) (AKX S.inc S.ne hk h1 h2') (x02.trans x3)
def QP (key : ByteArray) (l : List Pr) : Pr × Bool := match Ah key l with | some q => (q, true) | none => (M.Pb, false)
theorem AJK {l : List Pr} (hs : Sorted l) {p : Pr} (hp : p ∈ l) : Ah p.key l = some p := by
 unfold Ah
 cases h : l.find? fun q => decide (q.key = p.key) with
 | none =>
  have := List.find?_eq_none.1 h p hp
  simp at this
 | some q =>
  have h1 := List.find?_some h
  have h1 : q.key = p.key := of_decide_eq_true h1
  obtain ⟨i, hi⟩ := List.getElem?_of_mem (List.mem_of_find?_eq_some h)
  obtain ⟨j, hj⟩ := List.getElem?_of_mem hp
  rcases Nat.lt_trichotomy i j with hij | hij | hij
  ·have := YN hs hi hj hij
   rw [h1, BX] at this; cases this
  ·subst hij
   rw [hi] at hj; exact hj
  ·have := YN hs hj hi hij
   rw [h1, BX] at this; cases this
theorem AAU {l : List Pr} {key : ByteArray} (h : ∀ p ∈ l, p.key ≠ key) : Ah key l = none := by
 unfold Ah
 rw [List.find?_eq_none]
 intro p hp
 simpa using h p hp
theorem AJ8 {A : Amb} {h : Heap} {t lo hi : Nat} {l : List Pr} {f : List UInt8} {key : ByteArray} {R : Value → Heap → Prop} (T : TabAt h t l f lo hi) (S : WG (wraps (framesT l f)) l f) (hk : key.size ≤ 1099511627776)
  (H : ∀ h', Ext h h' → R (.tuple #[(QP key l).1.agg, .bool (QP key l).2]) h') : AA A P F8 #[BC t, .string key] h R := by
 refine RF ?_
 unfold IB
 refine New.mk fun h1 _ hb1 x1 hs1 => ?_
 have tail : ∀ g x, Ext h g → g[h.size]? = some (.cells #[.string ⟨#[]⟩, .string ⟨#[]⟩, .bool false] AO (0, 0)) → ∀ (q : Pr) (b : Bool), QP key l = (q, b) → x = Value.tuple #[.agg #[.string q.key, .string q.val, .bool q.gone], .bool b] →
   ∀ {c0 c1 : ByteArray} {c2 : Bool}, c0 = q.key → c1 = q.val → c2 = q.gone →
   Store g (⟨h.size, 0, none⟩ : Addr) (.string c0) fun h3 => Store h3 ((⟨h.size, 0, none⟩ : Addr).add 1) (.string c1) fun h4 => Store h4 ((⟨h.size, 0, none⟩ : Addr).add 2) (.bool c2) fun h5 =>
    AC h5 (⟨h.size, 0, none⟩ : Addr) fun r0 => AC h5 ((⟨h.size, 0, none⟩ : Addr).add 1) fun r1 => AY h5 ((⟨h.size, 0, none⟩ : Addr).add 2) fun r2 => R (.tuple #[.agg #[.string r0, .string r1, .bool r2], .bool b]) h5 := by
  intro g x xg hbg q b e1 e2 c0 c1 c2 d0 d1 d2
  subst d0 d1 d2
  refine Store.mk hbg (by simp) fun h3 hb3 m3 hs3 => ?_
  rw [Bw, Bw]
  refine Store.mk hb3 (by simp) fun h4 hb4 m4 hs4 => ?_
  refine Store.mk hb4 (by simp) fun h5 hb5 m5 hs5 => ?_
  refine AC.mk (AJ hb5 rfl) (AC.mk (AJ hb5 rfl) (AY.mk (AJ hb5 rfl) ?_))
  have hx : Ext h h5 := ⟨by have := xg.size; omega, fun c hc _ => (m5.get c (by have := xg.size; omega) (by omega)).trans ((m4.get c (by have := xg.size; omega) (by omega)).trans ((m3.get c (by have := xg.size; omega) (by omega)).trans (xg.get c hc (fun h => h))))⟩
  have := H h5 hx
  rw [e1] at this
  exact this
 refine Join.mk fun K hK => ?_
 refine PIf.no rfl (atI ?_)
 obtain ⟨fs, bs, ht, vf, vb, _, _⟩ := (T.ext x1).at_
 refine AC.mk (AB ht rfl) ?_
 refine AHg hk ⟨_, rfl, ?_⟩
 rw [HV]
 refine hK _ _ ?_
 refine PIf.intro (fun hq => ?_) (fun hq => ?_)
 ·have hq : XL f key = false := by simpa using hq
  have hn : Ah key l = none := AAU fun p hp e => by
   have := S.has p hp
   rw [e, hq] at this; cases this
  exact tail h1 _ x1 hb1 M.Pb false (by unfold QP; rw [hn]) rfl rfl rfl rfl
 ·refine atI (AQ.mk (s := bs) (AB ht rfl) ?_)
  refine ACg (T.ext x1) S fun h6 B hB x6 => ⟨_, rfl, AB (Ab x6 ht) rfl, ?_⟩
  have hxb : ((H5 l).map fun b => Aa (Ar b))[B]? = some (Aa (Ar (BQ l B))) := by simp [H5, hB.lt]
  refine (vb.ext x6).idx hxb fun a1 ha1 hc1 => ?_
  rw [Int.toNat_natCast]
  refine AC.mk hc1.str ?_
  have hob : ∀ p ∈ BQ l B, Ih p := fun p hp => S.ok p (LJ hp)
  have hbp := ME S.ok hB.lt
  refine YC hob (by omega) fun ps h7 op x7 bp => ⟨_, _, rfl, ?_⟩
  have hpl : ps.len = (BQ l B).length := op.len
  have hbl := Md hB.lt
  have xx7 := (x1.trans x6).trans x7
  have hb7 := Ab x7 (Ab x6 hb1)
  refine Loop.rule (fun m x hh => ∃ j : Nat, x = ((j : Int), ()) ∧ m = (BQ l B).length - j ∧ j ≤ (BQ l B).length ∧ (∀ i p, i < j → (BQ l B)[i]? = some p → p.key ≠ key) ∧ Ext h7 hh) ?_ ⟨0, rfl, rfl, by omega, fun i p hi => by omega, Mod.refl⟩
  rintro K1 m _ h8 ⟨j, rfl, rfl, hj, hno, x8⟩ hK1
  dsimp only
  refine PIf.intro (fun hq => ?_) (fun hq => ?_)
  ·have hjl : j < (BQ l B).length := by rw [hpl] at hq; simp at hq; omega
   have hx : (BQ l B)[j]? = some (BQ l B)[j] := List.getElem?_eq_getElem hjl
   have hmem : (BQ l B)[j] ∈ l := LJ (List.getElem_mem hjl)
   generalize (BQ l B)[j] = p at hx hmem
   refine (op.ext x8).view.idx hx fun a2 ha2 hc2 => ?_
   obtain ⟨c0, c1, c2⟩ := hc2.pair
   rw [Int.toNat_natCast]
   refine AC.mk c0 (AC.mk c1 (AY.mk c2 ?_))
   refine New.pair fun b1 h12 hbe hb12 x12 hs12 => ?_
   refine AC.mk (AJ hb12 rfl) ?_
   refine PIf.intro (fun he => ?_) (fun he => ?_)
   ·rw [BR, decide_eq_true_iff] at he
    refine AC.mk (AJ hb12 rfl) (AC.mk (AB hb12 rfl) (AY.mk (AB hb12 rfl) ?_))
    have hf := AJK S.inc hmem
    rw [he] at hf
    exact tail h12 _ ((xx7.trans x8).trans x12) (Ab x12 (Ab x8 hb7)) p true (by unfold QP; rw [hf]) rfl rfl rfl rfl
   ·rw [BR, decide_eq_false_iff_not] at he
    rw [AR (by omega)]
    refine hK1 ((BQ l B).length - (j + 1)) _ _ (by omega) ⟨j + 1, rfl, rfl, hjl, fun i q hi hqq => ?_, x8.trans x12⟩
    by_cases hij : i = j
    ·rw [hij, hx] at hqq; cases hqq
     exact he
    ·exact hno i q (by omega) hqq
  ·have hjl : j = (BQ l B).length := by rw [hpl] at hq; simp at hq; omega
   have hn : Ah key l = none := AAU fun p hp e => by
    obtain ⟨x, hx⟩ := List.getElem?_of_mem hp
    obtain ⟨h1, h2⟩ := hB.there x p hx e
    have hxx : (BQ l B)[x - 8 * B]? = some p := by
     rw [Mo (by omega), show 8 * B + (x - 8 * B) = x by omega]; exact hx
    have := (List.getElem?_eq_some_iff.1 hxx).1
    exact hno (x - 8 * B) p (by omega) hxx e
   exact tail h8 _ (xx7.trans x8) (Ab x8 hb7) M.Pb false (by unfold QP; rw [hn]) rfl rfl rfl rfl
theorem AHr {key : ByteArray} {l : List Pr} (hs : Sorted l) {x : Nat} {p : Pr} (hp : l[x]? = some p) : x < atK key l ↔ sLt p.key key = true := M.AAe hs hp
theorem AGg {A : Amb} {h0 : Heap} {b c t lo hi : Nat} {T1 T2 : TypeId} {l : List Pr} {f : List UInt8} {key : ByteArray} (hb : h0[b]? = some (.cells #[BC t] T1 (0, 0))) (hc : h0[c]? = some (.cells #[.string key] T2 (0, 0)))
  (T : TabAt h0 t l f lo hi) (hhi : hi ≤ h0.size) (S : WG (wraps (framesT l f)) l f) :
  Cw A P (.func (.func ES) #[] #[BC b, BC c]) (fun d => (lo ≤ d ∧ d < hi) ∨ d = b ∨ d = c) h0 (l.drop (atK key l)) := by
 refine ⟨?_, _, _, rfl, fun yv => by kernel_rfl, fun h hS yv J O hy hd hB hY hJ => ?_⟩
 ·rintro d (hd | rfl | rfl)
  ·omega
  ·exact Am hb
  ·exact Am hc
 rw [M.ALP]
 refine OT ?_
 unfold GI
 have hbh := (hS b (.inr (.inl rfl))).trans hb
 have hch := (hS c (.inr (.inr rfl))).trans hc
 have hT : TabAt h t l f lo hi := by
  obtain ⟨fs, bs, h1, h2, h3, h4, h5⟩ := T.at_
  have vw : ∀ {s : Sl} {ks : List ByteArray}, View EC h0 s ks → (∀ d, s.blk = some d → lo ≤ d ∧ d < hi) → View EC h s ks := fun v hs => ⟨v.len, v.cap, fun i x hi => by
   obtain ⟨a, ha, hcc⟩ := v.cells i x hi
   refine ⟨a, ha, fun j v hj => ?_⟩
   rw [← hcc j v hj]
   exact KM (by rw [add_block, add_block]; exact hS _ (.inl (hs _ (by simp [Sl.blk, ha]))))⟩
  exact ⟨⟨fs, bs, (hS t (.inl T.tlt)).trans h1, vw h2 h4, vw h3 h5, h4, h5⟩, T.tlt⟩
 have hdO : ∀ d, lo ≤ d → d < hi → ¬ O d := fun d h1 h2 => hd d (.inl ⟨h1, h2⟩)
 obtain ⟨fs, bs, ht, vf, vb, b1, b2⟩ := hT.at_
 refine atI (AU.mk (AJ hbh rfl) (PIf.no rfl (atI (AU.mk (AJ hbh rfl) (atI (AQ.mk (s := bs) (AB ht rfl) (atI (AU.mk (AJ hbh rfl) (atI (AC.mk (AJ hch rfl) ?_))))))))))
 refine ACg hT S fun h1 B hBk x1 => ⟨_, rfl, AB (Ab x1 ht) rfl, AJ (Ab x1 hbh) rfl, ?_⟩
 have hbl : bs.len = BM l := by rw [vb.len]; simp [Es]
 have hBlt := hBk.lt
 refine ⟨by rw [hbl]; omega, ?_⟩
 rw [Int.toNat_natCast, hbl]
 have hle := M.Qx key l
 have hmany := S.many
 have hN : BM l ≤ 12501 := by unfold BM; omega
 have hat : 8 * B ≤ atK key l := by
  apply Nat.le_of_not_lt
  intro hlt
  have hlen : atK key l < l.length := by unfold BM at hBlt; omega
  obtain ⟨q, hx⟩ : ∃ q, l[atK key l]? = some q := ⟨_, List.getElem?_eq_getElem hlen⟩
  have h1 := hBk.below _ _ hlt hx
  have h2 := (AHr S.inc hx).2 h1
  omega
 have hdl : (l.drop (atK key l)).length = l.length - atK key l := by simp
 have hJ1 := hB.stable _ _ _ _ _ hJ (x1.weak (S' := fun b => ¬ O b ∧ h.size ≤ b) fun _ _ h => h.elim)
 have hvb : View EC h ⟨Ao bs.p bs.cap B 1, BM l - B, bs.cap - B⟩ (((H5 l).map fun b => Aa (Ar b)).drop B) := by
  have := vb.sub (lo := B) (hi := BM l) (by omega) (by simp [Es])
  rw [List.take_of_length_le (by simp [Es])] at this
  exact this
 have hvblk : ∀ d, Sl.blk ⟨Ao bs.p bs.cap B 1, BM l - B, bs.cap - B⟩ = some d → ¬ O d := fun d hd' => by
  have := b2 d (Ps hd'); exact hdO d this.1 this.2
 refine Loop.rule (fun m x hh => ∃ (i : Nat) (O1 : Nat → Prop), x = ((i : Int), ()) ∧ m = BM l - B - i ∧ i ≤ BM l - B ∧ Mod O h hh ∧ (∀ b, O1 b → O b ∨ h.size ≤ b) ∧ J (min (8 * (B + i)) l.length - atK key l) true O1 hh) ?_
  ⟨0, O, rfl, rfl, by omega, x1.mod, fun b hb => .inl hb, by
   have : min (8 * (B + 0)) l.length - atK key l = 0 := by omega
   rw [this]; exact hJ1⟩
 rintro K m _ hh ⟨i, O1, rfl, rfl, hi, md, hsub, hjj⟩ hK
 dsimp only
 refine PIf.intro (fun hq => ?_) (fun hq => ?_)
 ·have hil : i < BM l - B := by simp at hq; omega
  have hin : B + i < BM l := by omega
  have h8 : 8 * (B + i) < l.length := by unfold BM at hin; omega
  have hxb : (((H5 l).map fun b => Aa (Ar b)).drop B)[i]? = some (Aa (Ar (BQ l (B + i)))) := by rw [List.getElem?_drop]; simp [H5, hin]
  refine (hvb.mod md hvblk).idx hxb fun a5 ha5 hc5 => ?_
  rw [Int.toNat_natCast]
  refine AC.mk hc5.str ?_
  have hob : ∀ p ∈ BQ l (B + i), Ih p := fun p hp => S.ok p (LJ hp)
  have hbp := ME S.ok hin
  have hbl8 := Md hin
  refine YC hob (by omega) fun ps h3 op x3 bp => ⟨_, _, rfl, ?_⟩
  have hpl : ps.len = (BQ l (B + i)).length := op.len
  have hmin : min (8 * (B + i)) l.length = 8 * (B + i) := by omega
  rw [hmin] at hjj
  have szm := md.size
  have hOlt := hB.wf _ _ _ _ hjj
  have hJ3 := hB.stable _ _ _ _ _ hjj (x3.weak (S' := fun b => ¬ O1 b ∧ h.size ≤ b) fun _ _ h => h.elim)
  have md3 : Mod O h h3 := md.trans x3.mod
  refine Loop.rule (fun m x hh4 => ∃ (j : Nat) (O2 : Nat → Prop), x = ((j : Int), ()) ∧ m = (BQ l (B + i)).length - j ∧ j ≤ (BQ l (B + i)).length ∧ Mod O h hh4 ∧ (∀ b, O2 b → O b ∨ h.size ≤ b) ∧ (∀ d, ps.blk = some d → ¬ O2 d ∧ d < hh4.size) ∧ View Af hh4 ps (BQ l (B + i)) ∧ J (8 * (B + i) + j - atK key l) true O2 hh4) ?_
   ⟨0, O1, rfl, rfl, by omega, md3, hsub, fun d hd' => ⟨fun h => by have := bp d hd'; have := hOlt d h; omega, op.lt hd'⟩, op.view, hJ3⟩
  rintro K1 m _ h4 ⟨j, O2, rfl, rfl, hj, md4, hsub2, hpb, vp, hj4⟩ hK1
  dsimp only
  refine PIf.intro (fun hq => ?_) (fun hq => ?_)
  ·have hjl : j < (BQ l (B + i)).length := by rw [hpl] at hq; simp at hq; omega
   have hx : (BQ l (B + i))[j]? = some (BQ l (B + i))[j] := List.getElem?_eq_getElem hjl
   have hxl : l[8 * (B + i) + j]? = some (BQ l (B + i))[j] := by rw [← Mo (by omega)]; exact hx
   generalize (BQ l (B + i))[j] = p at hx hxl
   refine vp.idx hx fun a6 ha6 hc6 => ?_
   obtain ⟨c0, c1, c2⟩ := hc6.pair
   rw [Int.toNat_natCast]
   refine AC.mk c0 (AC.mk c1 (AY.mk c2 ?_))
   refine New.pair fun b' h8' hbe hb8 x8 hs8 => ?_
   have md8 : Mod O h h8' := md4.trans x8.mod
   have sz4 := md4.size
   have hJ8 := hB.stable _ _ _ _ _ hj4 (x8.weak (S' := fun b => ¬ O2 b ∧ h.size ≤ b) fun _ _ h => h.elim)
   have hch8 : h8'[c]? = some (.cells #[.string key] T2 (0, 0)) := md8.blk hch (hd c (.inr (.inr rfl)))
   refine Join.mk fun K2 hK2 => ?_
   refine AC.mk (AJ hb8 rfl) (atI (AC.mk (AJ hch8 rfl) ?_))
   have hxlen := (List.getElem?_eq_some_iff.1 hxl).1
   have hiff := AHr (key := key) S.inc hxl
   refine PIf.intro (fun hlt => ?_) (fun hlt => ?_)
   ·have hge : atK key l ≤ 8 * (B + i) + j := by
     apply Nat.le_of_not_lt
     intro hh
     rw [hiff.1 hh] at hlt; cases hlt
    refine AC.mk (AJ hb8 rfl) (AC.mk (AB hb8 rfl) (AY.mk (AB hb8 rfl) ?_))
    have hget : (l.drop (atK key l))[8 * (B + i) + j - atK key l]? = some p := by
     rw [List.getElem?_drop, show atK key l + (8 * (B + i) + j - atK key l) = 8 * (B + i) + j by omega]; exact hxl
    refine Eh.mono (hY _ p O2 h8' hget hJ8) ?_
    rintro _ h10 ⟨g, O3, rfl, hsub3, m10, hj10⟩
    have sz8 := md8.size
    have hsubO3 : ∀ b, O3 b → O b ∨ h.size ≤ b := fun b hb => (hsub3 b hb).elim (hsub2 b) fun h1 => .inr (by omega)
    have md10 : Mod O h h10 := md8.then (m10.weak fun b _ hb => hsub2 b hb)
    refine ⟨g, rfl, hK2 _ _ ?_⟩
    dsimp only
    cases g with
    | false => exact PIf.yes rfl ⟨rfl, _, false, O3, md10, hsubO3, hj10, (fun h => by cases h), by rw [hdl]; omega⟩
    | true =>
     refine PIf.no rfl ?_
     rw [AR (by omega)]
     refine hK1 ((BQ l (B + i)).length - (j + 1)) _ _ (by omega) ⟨j + 1, O3, rfl, rfl, hjl, md10, hsubO3, fun d hd' => ⟨fun h => ?_, by have := hpb d hd'; have := x8.size; have := m10.size; omega⟩, ?_, ?_⟩
     ·rcases hsub3 d h with h | h
      ·exact (hpb d hd').1 h
      ·have := (hpb d hd').2; have := x8.size; omega
     ·exact (vp.ext x8).mod m10 fun d hd' => (hpb d hd').1
     ·rw [show 8 * (B + i) + (j + 1) - atK key l = 8 * (B + i) + j - atK key l + 1 by omega]; exact hj10
   ·have hlt' : sLt p.key key = true := by simpa using hlt
    have hge := hiff.2 hlt'
    refine hK2 _ _ (PIf.no rfl ?_)
    rw [AR (by omega)]
    refine hK1 ((BQ l (B + i)).length - (j + 1)) _ _ (by omega) ⟨j + 1, O2, rfl, rfl, hjl, md8, hsub2, fun d hd' => ⟨(hpb d hd').1, by have := (hpb d hd').2; have := x8.size; omega⟩, vp.ext x8, ?_⟩
    rw [show 8 * (B + i) + (j + 1) - atK key l = 8 * (B + i) + j - atK key l by omega]; exact hJ8
  ·have hjl : j = (BQ l (B + i)).length := by rw [hpl] at hq; simp at hq; omega
   rw [AR (by omega)]
   refine hK (BM l - B - (i + 1)) _ _ (by omega) ⟨i + 1, O2, rfl, rfl, by omega, md4, hsub2, ?_⟩
   have hend : min (8 * (B + (i + 1))) l.length = 8 * (B + i) + j := by
    rw [hjl]
    unfold BQ
    rw [List.length_take, List.length_drop]
    omega
   rw [hend]; exact hj4
 ·have hil : i = BM l - B := by simp at hq; omega
  have hend : min (8 * (B + i)) l.length = l.length := by rw [hil, show B + (BM l - B) = BM l by omega]; unfold BM; omega
  rw [hend] at hjj
  exact ⟨rfl, l.length - atK key l, true, O1, md, hsub, hjj, fun _ => hdl.symm, by rw [hdl]; omega⟩
theorem ADk {A : Amb} {h : Heap} {t lo hi : Nat} {l : List Pr} {f : List UInt8} {key : ByteArray} {R : Value → Heap → Prop} (T : TabAt h t l f lo hi) (hhi : hi ≤ h.size) (S : WG (wraps (framesT l f)) l f)
  (H : ∀ fv h', Cw A P fv (fun d => (lo ≤ d ∧ d < hi) ∨ d = h.size ∨ d = h.size + 1) h' (l.drop (atK key l)) → Ext h h' → h'.size = h.size + 2 → R fv h') : AA A P EI #[BC t, .string key] h R := by
 refine QJ ?_
 unfold Hd
 refine New.mk fun h1 _ hb1 x1 hs1 => New.mk fun h2 _ hb2 x2 hs2 => ?_
 have x02 : Ext h h2 := x1.trans x2
 have hh := AGg (A := A) (Ab x2 hb1) hb2 (T.ext x02) (by have := x02.size; omega) S (key := key)
 refine H _ h2 (hh.weak ?_ ?_ (fun c _ => rfl)) x02 (by omega)
 ·rintro d (hd | rfl | rfl)
  ·exact .inl hd
  ·exact .inr (.inl rfl)
  ·exact .inr (.inr hs1)
 ·rintro d (hd | rfl | rfl)
  ·have := x02.size; omega
  ·omega
  ·omega
end Go.Lf.G

/-
 Contracts: a log opened; added to, synced, rotated, dropped (chapter 4).
-/
set_option maxRecDepth 100000
set_option linter.unusedVariables false
set_option linter.unusedSimpArgs false
namespace Go.Lf.G
open Go
def rdF (l : List Fi) (k : ByteArray) : Nat := match BP k l with | none => 0 | some f => f.firm.size + f.soft.size
theorem Zj {k : ByteArray} {f : Fi} {l : List Fi} : BP k (f :: l) = if f.name = k then some f else BP k l := by rw [DL]
theorem AEj (k : ByteArray) : ∀ l : List Fi, rdF l k + wtF (Lj k l) ≤ wtF l
 | [] => by simp [rdF, BP, Lj, wtF]
 | f :: l => by
  have ih := AEj k l
  have hw : wtF (f :: l) = f.firm.size + f.soft.size + 1 + wtF l := by simp [wtF]
  by_cases h : f.name = k
  ·have h1 : rdF (f :: l) k = f.firm.size + f.soft.size := by unfold rdF; rw [Zj, if_pos h]
   have h2 : Lj k (f :: l) = Lj k l := by simp [Lj, h]
   rw [h1, h2, hw]; omega
  ·have h1 : rdF (f :: l) k = rdF l k := by unfold rdF; rw [Zj, if_neg h]
   have h2 : Lj k (f :: l) = f :: Lj k l := by simp [Lj, h]
   have h3 : wtF (f :: Lj k l) = f.firm.size + f.soft.size + 1 + wtF (Lj k l) := by simp [wtF]
   rw [h1, h2, h3, hw]; omega
theorem AHZ : ∀ (ks : List ByteArray), ks.Nodup → ∀ l : List Fi, (ks.map (rdF l)).sum ≤ wtF l
 | [], _, l => by simp
 | k :: ks, hnd, l => by
  rw [List.nodup_cons] at hnd
  have ih := AHZ ks hnd.2 (Lj k l)
  have e : ks.map (rdF (Lj k l)) = ks.map (rdF l) := List.map_congr_left fun x hx => by
   unfold rdF
   rw [Ti, if_neg (fun h => by subst h; exact hnd.1 hx)]
  rw [e] at ih
  have := AEj k l
  simp only [List.map_cons, List.sum_cons]
  omega
def rdB (m : Bx) (nm : ByteArray) (n : Nat) : ByteArray := (PI m (fnB nm n)).1
noncomputable def OB (nm : ByteArray) (m : Bx) (l : List Nat) : List ByteArray := l.flatMap fun n => (AAR (bl (rdB m nm n))).map Aa
theorem AFh {m : Bx} (hd : m.down = false) (k : ByteArray) : (PI m k).1.size = rdF m.files k := by
 unfold PI rdF
 rw [if_neg (by simp [hd])]
 cases BP k m.files with
 | none => rfl
 | some f => simp [ByteArray.size_append]
theorem Wv {nm : ByteArray} {m : Bx} (hd : m.down = false) {l : List Nat} (hl : l.Pairwise (· < ·)) : (OB nm m l).length ≤ wtF m.files := by
 have h1 : (OB nm m l).length ≤ ((l.map (fnB nm)).map (rdF m.files)).sum := by
  unfold OB
  clear hl
  induction l with
  | nil => simp
  | cons n l ih =>
   have h2 := AC3 (Xk (bl (rdB m nm n)))
   rw [Bz, rdB, AFh hd] at h2
   simp only [List.flatMap_cons, List.length_append, List.length_map, List.map_cons, List.sum_cons] at ih ⊢
   unfold rdB at ih ⊢
   omega
 refine Nat.le_trans h1 (AHZ _ ?_ _)
 refine List.pairwise_map.2 (hl.imp fun {a c} h e => ?_)
 have := F5 e
 omega
theorem AFs {A : Amb} {h : Heap} {b : Nat} {S : Nat → Prop} {m : Bx} {nm : ByteArray} {R : Value → Heap → Prop} (E : Evn h) (B : BV h b S m) (hd : m.down = false) (h0 : 0 < nm.size) (h8 : nm.size ≤ 8) (hw : wtF m.files ≤ 8000000000000)
  (H0 : ∀ h' l, AI2 nm m l → l.getLast?.getD 0 = 99999999 → Ext h h' → R (.tuple #[.pointer none, .slice none 0 0, .int .i64 2]) h')
  (H1 : ∀ h' l lg sl, AI2 nm m l → l.getLast?.getD 0 ≠ 99999999 → Ext h h' → h.size ≤ lg → h'[lg]? = some (.cells #[BC b, .string nm, .int .i64 ((l.getLast?.getD 0 + 1 : Nat) : Int), .bool false] UE (0, 0)) → View EC h' sl (OB nm m l) →
   (∀ c, sl.blk = some c → h.size ≤ c ∧ c ≠ lg) → R (.tuple #[BC lg, .slice sl.p sl.len sl.cap, .int .i64 0]) h') : AA A P Kn #[BC b, .string nm] h R := by
 refine ADK ?_
 unfold RG
 refine PIf.no rfl (Join.mk fun K hK => ?_)
 have hne : sEq nm (⟨#[]⟩ : ByteArray) = false := by
  rw [BR, decide_eq_false_iff_not]
  rintro rfl
  have : (⟨#[]⟩ : ByteArray).size = 0 := rfl
  omega
 rw [hne]
 refine PIf.no rfl (hK _ _ (PIf.no (by simp; omega) ?_))
 refine VE E B hd (by omega) hw fun h2 s2 l SL v2 x2 _ => ⟨s2, _, rfl, PIf.no rfl ?_⟩
 have hsz0 : l.length ≤ 99999999 := by
  have h1 : ∀ (l : List Nat) (k : Nat), l.Pairwise (· < ·) → (∀ n ∈ l, k < n ∧ n ≤ 99999999) → l.length + k ≤ 99999999 ∨ l = [] := by
   intro l
   induction l with
   | nil => intro k _ _; exact .inr rfl
   | cons a l ih =>
    intro k hp hr
    rw [List.pairwise_cons] at hp
    have ha := hr a (by simp)
    rcases ih a hp.2 (fun n hn => ⟨hp.1 n hn, (hr n (List.mem_cons_of_mem _ hn)).2⟩) with h | h
    ·left; simp only [List.length_cons]; omega
    ·subst h; left; simp; omega
  rcases h1 l 0 SL.inc (fun n hn => by have := (SL.mem n).1 hn; omega) with h | h
  ·omega
  ·subst h; simp
 refine Loop.rule (fun mm x hh => ∃ (i : Nat) (sl : Sl), x = (sl, (((l.take i).getLast?.getD 0 : Nat) : Int), (i : Int), ()) ∧ Ext h2 hh ∧ Own EC Ad hh sl (OB nm m (l.take i)) ∧ (∀ c, sl.blk = some c → h2.size ≤ c) ∧ i ≤ l.length ∧ mm = l.length - i) ?_
  ⟨0, ⟨none, 0, 0⟩, rfl, Mod.refl, Own.nil, fun c hc => by simp [Sl.blk] at hc, Nat.zero_le _, rfl⟩
 rintro K1 mm _ hh ⟨i, sl, rfl, xh, o, f, hi, rfl⟩ hK1
 have hlen : (l.map fun n : Nat => (n : Int)).length = l.length := List.length_map ..
 rw [v2.len, hlen]
 refine PIf.intro (fun hq => ?_) (fun hq => ?_)
 ·have hil : i < l.length := by simpa using hq
  have hget : l[i]? = some l[i] := List.getElem?_eq_getElem hil
  have hmem : l[i] ∈ l := List.getElem_mem hil
  obtain ⟨n1, n9, hfn⟩ := (SL.mem l[i]).1 hmem
  have htk : l.take (i + 1) = l.take i ++ [l[i]] := by rw [List.take_add_one, hget]; rfl
  have hlast : (l.take (i + 1)).getLast?.getD 0 = l[i] := by rw [htk, List.getLast?_concat]; rfl
  have hrec : OB nm m (l.take (i + 1)) = OB nm m (l.take i) ++ (AAR (bl (rdB m nm l[i]))).map Aa := by
   rw [htk]; unfold OB; rw [List.flatMap_append]; simp
  have hcnt := Wv (nm := nm) (m := m) hd (l := l.take (i + 1)) (SL.inc.sublist (List.take_sublist _ _))
  rw [hrec, List.length_append, List.length_map] at hcnt
  rw [← hlen, ← v2.len]
  refine (v2.ext xh).idx (i := i) (x := (l[i] : Int)) (by rw [List.getElem?_map, hget]; rfl) fun a _ c => ?_
  refine AZ.mk c.int ?_
  have x2h := x2.trans xh
  refine Ry (E.ext x2h) (by omega) (by omega) fun h4 x4 => ⟨_, rfl, ?_⟩
  refine Xb ((B.ext x2h).ext x4) ⟨_, _, rfl, ?_⟩
  have hr2 : (PI m (fnB nm l[i])).2 = 0 := by
   unfold PI
   rw [if_neg (by simp [hd])]
   cases hf : BP (fnB nm l[i]) m.files with
   | none => rw [hf] at hfn; cases hfn
   | some f => rfl
  rw [hr2]
  refine PIf.no rfl ?_
  have hsize : (PI m (fnB nm l[i])).1.size ≤ 8000000000000 := by
   rw [AFh hd]
   have := AEj (fnB nm l[i]) m.files
   omega
  refine AHw hsize fun h6 s6 n6 x6 v6 => ⟨s6, _, rfl, ?_⟩
  refine GZ (E := EC) ADJ ((o.ext x4).ext x6) v6 (by rw [List.length_map]; unfold rdB at hcnt; omega) (by rw [List.length_map]; unfold rdB at hcnt; simp [maxLen]; omega) fun s' h7 o7 m7 b7 n7 => ?_
  dsimp only
  rw [AR (by omega)]
  refine hK1 (l.length - (i + 1)) _ _ (by omega) ⟨i + 1, s', ?_, ((xh.trans x4).trans x6).more m7 f, ?_, fun c hc => ?_, hil, rfl⟩
  ·rw [hlast]
  ·rw [hrec]; exact o7
  ·rcases b7 c hc with h | h
   ·exact f c h
   ·have := xh.size; have := x4.size; have := x6.size; omega
 ·have hil : i = l.length := by simp at hq; omega
  subst hil
  rw [List.take_length] at o ⊢
  refine PIf.intro (fun q => ?_) (fun q => ?_)
  ·have q : l.getLast?.getD 0 = 99999999 := by simp at q; omega
   exact H0 hh l SL q (x2.trans xh)
  ·have q : l.getLast?.getD 0 ≠ 99999999 := by simp at q; omega
   have hb : l.getLast?.getD 0 ≤ 99999999 := by
    cases hg : l.getLast? with
    | none => simp
    | some n =>
     have := (SL.mem n).1 (List.mem_of_getLast? hg)
     simp; omega
   refine New.mk fun h8 _ hb8 x8 hs8 => ?_
   dsimp only at hb8 ⊢
   rw [AR (by omega)] at hb8
   refine H1 h8 l hh.size sl SL q ((x2.trans xh).trans x8) (by have := x2.size; have := xh.size; omega) hb8 (o.ext x8).view fun c hc => by have := f c hc; have := x2.size; have := o.lt hc; omega
def Cv (h : Heap) (lg b : Nat) (nm : ByteArray) (seg : Nat) (made : Bool) : Prop := h[lg]? = some (.cells #[BC b, .string nm, .int .i64 (seg : Int), .bool made] UE (0, 0))
theorem Cv.mod {h h' : Heap} {lg b : Nat} {nm : ByteArray} {seg : Nat} {made : Bool} {S : Nat → Prop} (L : Cv h lg b nm seg made) (x : Mod S h h') (hS : ¬ S lg) : Cv h' lg b nm seg made := x.blk L hS
theorem Cv.ext {h h' : Heap} {lg b : Nat} {nm : ByteArray} {seg : Nat} {made : Bool} (L : Cv h lg b nm seg made) (x : Ext h h') : Cv h' lg b nm seg made := x.blk L (fun h => h)
theorem Qz {A : Amb} {h : Heap} {lg b seg : Nat} {nm rec : ByteArray} {made : Bool} {S : Nat → Prop} {m : Bx} {R : Value → Heap → Prop} (E : Evn h) (L : Cv h lg b nm seg made) (B : BV h b S m) (hS : ¬ S lg) (hE : ∀ h', Mod S h h' → Evn h') (hnm : nm.size ≤ 1099511627776) (hseg : seg ≤ 4294967295) (hr : rec.size ≤ 1048576) (hw : wtF m.files ≤ 8000000000000)
  (H : ∀ h' S', BV h' b S' (CX m (fnB nm seg) (Aa (Bt (bl rec)))).2 → Cv h' lg b nm seg (made || decide ((CX m (fnB nm seg) (Aa (Bt (bl rec)))).1 = 0)) → Mod (fun c => S c ∨ c = lg) h h' → (∀ c, S' c → S c ∨ (h.size ≤ c ∧ c ≠ lg)) → R (.int .i64 (CX m (fnB nm seg) (Aa (Bt (bl rec)))).1) h') :
  AA A P EA #[BC lg, .string rec] h R := by
 refine SS ?_
 unfold I7
 refine PIf.no rfl ?_
 have hlt := Am L
 have hlen : (bl rec).length ≤ 1048576 := by rw [Bz]; exact hr
 have hwl := Fa hlen
 rw [Bz] at hwl
 have e0 : rec = Aa (bl rec) := (LU rec).symm
 have go : AA A P EU #[.string rec] h fun v h1 => ∃ t12a : ByteArray, ∃ t12b : Int, v = .tuple #[.string t12a, .int .i64 t12b] ∧ (t12a = Aa (Bt (bl rec)) ∧ t12b = 0 ∧ Ext h h1) := by
  rw [e0]
  refine WE (by rw [LU] at *; omega) (fun h1 => by rw [LU] at *; omega) fun _ h1 x1 => ⟨_, _, rfl, ?_, rfl, x1⟩
  rw [LU]
 refine AA.mono go ?_
 rintro v h1 ⟨wa, wb, rfl, rfl, rfl, x1⟩
 refine ⟨_, _, rfl, PIf.no rfl ?_⟩
 have L1 := L.ext x1
 refine atI (AU.mk (AJ L1 rfl) (atI (AC.mk (AB L1 rfl) (atI (AZ.mk (AB L1 rfl) ?_)))))
 refine Ry (E.ext x1) hseg hnm fun h2 x2 => ⟨_, rfl, ?_⟩
 have x02 := x1.trans x2
 have L2 := L.ext x02
 refine ⟨AJ L2 rfl, ?_⟩
 refine XH (B.ext x02) (by rw [AV]; omega) fun h3 S3 B3 m3 s3 => ⟨_, rfl, ?_⟩
 have L3 : Cv h3 lg b nm seg made := L2.mod m3 hS
 have hx := x02.size
 have hs3 : ∀ c, S3 c → S c ∨ (h.size ≤ c ∧ c ≠ lg) := fun c hc => (s3 c hc).imp id fun h => ⟨by omega, by omega⟩
 have m03 : Mod (fun c => S c ∨ c = lg) h h3 := (Ext.mod x02).trans (m3.weak fun c _ hc => .inl hc)
 refine PIf.intro (fun q => ?_) (fun q => ?_)
 ·have q : (CX m (fnB nm seg) (Aa (Bt (bl rec)))).1 ≠ 0 := by simpa using q
  exact H h3 S3 B3 (by rw [decide_eq_false q, Bool.or_false]; exact L3) m03 hs3
 ·have q : (CX m (fnB nm seg) (Aa (Bt (bl rec)))).1 = 0 := by simpa using q
  refine atI (Store.mk1 L3 (by simp) fun h4 hb4 m4 hs4 => ?_)
  have nS3 : ¬ S3 lg := fun hc => by rcases s3 lg hc with h | h; exact hS h; omega
  have := H h4 S3 (B3.mod m4 fun c hc e => nS3 (e ▸ hc)) (by rw [decide_eq_true q, Bool.or_true]; simpa [Cv] using hb4) (m03.then (m4.weak fun c _ hc => .inl (.inr hc))) hs3
  rw [q] at this
  exact this
def Ik (m : Bx) (k : ByteArray) (made : Bool) : Int × Bx := if made then EO m k else (0, m)
theorem WZ {A : Amb} {h : Heap} {lg b seg : Nat} {nm : ByteArray} {made : Bool} {S : Nat → Prop} {m : Bx} {R : Value → Heap → Prop} (E : Evn h) (L : Cv h lg b nm seg made) (B : BV h b S m) (hS : ¬ S lg) (hnm : nm.size ≤ 1099511627776) (hseg : seg ≤ 4294967295)
  (H : ∀ h', BV h' b S (Ik m (fnB nm seg) made).2 → Cv h' lg b nm seg made → Mod S h h' → R (.int .i64 (Ik m (fnB nm seg) made).1) h') :
  AA A P Ey #[BC lg] h R := by
 refine VU ?_
 unfold KW
 refine PIf.no rfl (atI (AY.mk (AB L rfl) ?_))
 cases made with
 | false => exact PIf.yes rfl (H h B L Mod.refl)
 | true =>
  refine PIf.no rfl (atI (AU.mk (AJ L rfl) (atI (AC.mk (AB L rfl) (atI (AZ.mk (AB L rfl) ?_))))))
  refine Ry E hseg hnm fun h1 x1 => ⟨_, rfl, ⟨AJ (L.ext x1) rfl, ?_⟩⟩
  refine AC1 (B.ext x1) fun h2 B2 m2 => ⟨_, rfl, ?_⟩
  exact H h2 B2 ((L.ext x1).mod m2 hS) ((Ext.mod x1).trans m2)
theorem RN {A : Amb} {h : Heap} {lg b seg : Nat} {nm : ByteArray} {made : Bool} {S : Nat → Prop} {m : Bx} {R : Value → Heap → Prop} (E : Evn h) (L : Cv h lg b nm seg made) (B : BV h b S m) (hS : ¬ S lg) (hnm : nm.size ≤ 1099511627776) (hseg : seg < 99999999)
  (H0 : (Ik m (fnB nm seg) made).1 ≠ 0 → ∀ h', BV h' b S (Ik m (fnB nm seg) made).2 → Cv h' lg b nm seg made → Mod S h h' → R (.tuple #[.int .i64 0, .int .i64 (Ik m (fnB nm seg) made).1]) h')
  (H1 : (Ik m (fnB nm seg) made).1 = 0 → ∀ h', BV h' b S (Ik m (fnB nm seg) made).2 → Cv h' lg b nm (seg + 1) false → Mod (fun c => S c ∨ c = lg) h h' → R (.tuple #[.int .i64 (seg : Int), .int .i64 0]) h') :
  AA A P Dz #[BC lg] h R := by
 refine TS ?_
 unfold Im
 refine PIf.no rfl (atI (AZ.mk (AB L rfl) (PIf.no (by simp; omega) ?_)))
 refine WZ E L B hS hnm (by omega) fun h1 B1 L1 m1 => ⟨_, rfl, ?_⟩
 refine PIf.intro (fun q => ?_) (fun q => ?_)
 ·exact H0 (by simpa using q) h1 B1 L1 m1
 ·have q : (Ik m (fnB nm seg) made).1 = 0 := by simpa using q
  refine atI (AZ.mk (AB L1 rfl) ?_)
  rw [AR (by omega)]
  refine atI (Store.mk1 L1 (by simp) fun h2 hb2 m2 hs2 => ?_)
  refine atI (Store.mk1 hb2 (by simp) fun h3 hb3 m3 hs3 => ?_)
  have L3 : Cv h3 lg b nm (seg + 1) false := by simpa [Cv] using hb3
  refine atI (AZ.mk (AB L3 rfl) ?_)
  have e : IntKind.wrap .i64 (((seg + 1 : Nat) : Int) - 1) = (seg : Int) := by rw [wrap_i64 (by omega) (by omega)]; omega
  rw [e]
  have md := m2.trans m3
  exact H1 q h3 (B1.mod md fun c hc e => hS (e ▸ hc)) L3 ((m1.weak fun c _ hc => .inl hc).trans (md.weak fun c _ hc => .inr hc))
end Go.Lf.G

/-
 Contracts: the document's box behind a crash; lists of strings alike; a box that is awake.
-/
set_option maxRecDepth 100000
set_option linter.unusedVariables false
set_option linter.unusedSimpArgs false
namespace Go.Lf.G
open Go
end Go.Lf.G

/-
 The plain law of a box, file by file: firm and soft bytes.
-/
set_option maxRecDepth 100000
set_option linter.unusedVariables false
set_option linter.unusedSimpArgs false
namespace Go.Lf
open Go
def ff (m : Bx) (k : ByteArray) : Option (ByteArray × ByteArray) := (BP k m.files).map fun f => (f.firm, f.soft)
theorem Pw {m : Bx} {k : ByteArray} : (BP k m.files).isSome = (ff m k).isSome := by unfold ff; cases BP k m.files <;> rfl
theorem ABi {m : Bx} (hd : m.down = false) (k : ByteArray) : PI m k = match ff m k with | none => (bs0, 31) | some p => (p.1 ++ p.2, 0) := by
 unfold PI ff
 rw [if_neg (by simp [hd])]
 cases BP k m.files <;> rfl
theorem AA2 (m : Bx) (l : List Fi) (k : ByteArray) : ff { Ez m with files := l } k = (BP k l).map fun f => (f.firm, f.soft) := rfl
theorem AFA {k x : ByteArray} (l : List Fi) : BP x (Oh k l) = if x = k then some ((BP k l).getD ⟨k, bs0, bs0⟩) else BP x l := by
 unfold Oh
 cases hf : BP k l with
 | some f =>
  simp only [Option.isSome_some, if_true]
  by_cases hx : x = k
  ·subst hx; simp [hf]
  ·rw [if_neg hx]
 | none =>
  rw [if_neg (by simp), Ze (fun y hy => Km hf y hy)]
  by_cases hx : x = k
  ·subst hx; simp
  ·rw [if_neg hx, if_neg (fun h => hx h.symm)]
def Goes (m : Bx) : Prop := m.down = false ∧ m.fuel ≠ 0
theorem AAF {m : Bx} (g : Goes m) {k d : ByteArray} (hk : IV k = false) : (CX m k d).1 = 0 ∧ ∀ x, ff (CX m k d).2 x = if x = k then some (((ff m k).getD (bs0, bs0)).1, ((ff m k).getD (bs0, bs0)).2 ++ d) else ff m x := by
 unfold CX
 rw [if_neg (by simp [g.1]), if_neg (by simp [hk]), if_neg g.2]
 refine ⟨rfl, fun x => ?_⟩
 rw [AA2, UL (g := Mv d) (fun _ => rfl), AFA]
 unfold ff
 by_cases hx : x = k
 ·subst hx
  rw [if_pos rfl, if_pos rfl]
  cases hf : BP x m.files with
  | none => simp [Mv]
  | some f =>
   have := (GY hf).1
   simp [Mv, this]
 ·rw [if_neg hx, if_neg hx]
  cases hf : BP x m.files with
  | none => rfl
  | some f =>
   have := (GY hf).1
   simp only [Option.map_some]
   rw [if_neg (by rw [this]; exact hx)]
theorem AFV {m : Bx} (g : Goes m) {k : ByteArray} {p : ByteArray × ByteArray} (hk : ff m k = some p) : (EO m k).1 = 0 ∧ ∀ x, ff (EO m k).2 x = if x = k then some (p.1 ++ p.2, bs0) else ff m x := by
 have hf : ∃ f, BP k m.files = some f ∧ (f.firm, f.soft) = p := by
  unfold ff at hk
  cases hf : BP k m.files with
  | none => rw [hf] at hk; cases hk
  | some f => rw [hf] at hk; exact ⟨f, rfl, Option.some.inj hk⟩
 obtain ⟨f, hf, rfl⟩ := hf
 unfold EO
 rw [if_neg (by simp [g.1]), if_neg (by simp [hf]), if_neg g.2]
 refine ⟨rfl, fun x => ?_⟩
 rw [AA2, UL (g := OI) (fun _ => rfl)]
 by_cases hx : x = k
 ·subst hx
  have := (GY hf).1
  rw [if_pos rfl, hf]
  simp [OI, this]
 ·rw [if_neg hx]
  unfold ff
  cases hf2 : BP x m.files with
  | none => rfl
  | some f2 =>
   have := (GY hf2).1
   simp only [Option.map_some]
   rw [if_neg (by rw [this]; exact hx)]
theorem AGK {m : Bx} (g : Goes m) {k : ByteArray} (hk : (ff m k).isSome = true) : (En m k).1 = 0 ∧ ∀ x, ff (En m k).2 x = if x = k then none else ff m x := by
 have hf : (BP k m.files).isNone = false := by
  rw [← Pw] at hk
  cases hf : BP k m.files with
  | none => rw [hf] at hk; cases hk
  | some f => rfl
 unfold En
 rw [if_neg (by simp [g.1]), if_neg (by simp [hf]), if_neg g.2]
 refine ⟨rfl, fun x => ?_⟩
 rw [AA2, Ti]
 split <;> rfl
theorem AGO {m : Bx} (l : List Fi) : ({ Ez m with files := l } : Bx).down = m.down := by
 show (Ez m).down = m.down
 unfold Ez; split <;> rfl
def Calm (m : Bx) : Prop := m.down = false ∧ m.fuel = -1
theorem Calm.goes {m : Bx} (c : Calm m) : Goes m := ⟨c.1, by rw [c.2]; decide⟩
theorem AAI {m : Bx} (c : Calm m) : Ez m = m := by unfold Ez; rw [if_neg (by rw [c.2]; decide)]
theorem ADm {m : Bx} (c : Calm m) (k d : ByteArray) : Calm (CX m k d).2 := by
 unfold CX
 rw [if_neg (by simp [c.1])]
 split
 ·exact c
 ·rw [if_neg (by rw [c.2]; decide), AAI c]; exact ⟨c.1, c.2⟩
theorem AGh {m : Bx} (c : Calm m) (k : ByteArray) : Calm (EO m k).2 := by
 unfold EO
 rw [if_neg (by simp [c.1])]
 split
 ·exact c
 ·rw [if_neg (by rw [c.2]; decide), AAI c]; exact ⟨c.1, c.2⟩
theorem Vd {ks : List Int} : ∀ {l : List Fi} {k : Nat} {x : ByteArray}, BP x l = none → BP x (Cg ks k l) = none := by
 intro l k x h
 refine PO fun f hf e => ?_
 obtain ⟨f', h1, h2⟩ := Kc hf
 exact Km h f' h1 (h2.trans e)
theorem AFr : ∀ {l l' : List Nat}, l.Pairwise (· < ·) → l'.Pairwise (· < ·) → (∀ n, n ∈ l ↔ n ∈ l') → l = l'
 | [], [], _, _, _ => rfl
 | [], b :: l', _, _, h => by have := (h b).2 (by simp); cases this
 | a :: l, [], _, _, h => by have := (h a).1 (by simp); cases this
 | a :: l, b :: l', h1, h2, h => by
  rw [List.pairwise_cons] at h1 h2
  have hab : a = b := by
   rcases List.mem_cons.1 ((h a).1 (by simp)) with e | e
   ·exact e
   ·rcases List.mem_cons.1 ((h b).2 (by simp)) with e2 | e2
    ·exact e2.symm
    ·have := h2.1 a e; have := h1.1 b e2; omega
  subst hab
  have : l = l' := AFr h1.2 h2.2 fun n => by
   constructor
   ·intro hn
    rcases List.mem_cons.1 ((h n).1 (List.mem_cons_of_mem _ hn)) with e | e
    ·have := h1.1 n hn; omega
    ·exact e
   ·intro hn
    rcases List.mem_cons.1 ((h n).2 (List.mem_cons_of_mem _ hn)) with e | e
    ·have := h2.1 n hn; omega
    ·exact e
  rw [this]
end Go.Lf

/-
 Contracts: a log's segments dropped; what a log holds; a log that is awake (chapter 4).
-/
set_option maxRecDepth 100000
set_option linter.unusedVariables false
set_option linter.unusedSimpArgs false
namespace Go.Lf.G
open Go
theorem AJp {nm : ByteArray} {m : Bx} {l : List Nat} {R : Nat → List ByteArray} (hd : m.down = false) (h : ∀ n ∈ l, ∃ p, ff m (fnB nm n) = some p ∧ Jq (bl (p.1 ++ p.2)) ((R n).map bl)) : OB nm m l = l.flatMap R := by
 unfold OB
 induction l with
 | nil => rfl
 | cons n l ih =>
  obtain ⟨p, h1, h2⟩ := h n (by simp)
  rw [List.flatMap_cons, List.flatMap_cons, ih fun k hk => h k (List.mem_cons_of_mem _ hk)]
  congr 1
  have e : rdB m nm n = p.1 ++ p.2 := by unfold rdB; rw [ABi hd, h1]
  rw [e, AIm h2, List.map_map]
  conv => rhs; rw [← List.map_id (R n)]
  exact List.map_congr_left fun x _ => LU x
theorem AAf {nm : ByteArray} {n : Nat} (h8 : nm.size ≤ 8) (hn : n ≤ 99999999) : IV (fnB nm n) = false := by
 have h1 := AIL (nm := nm) hn
 unfold IV
 rw [Bool.or_eq_false_iff, decide_eq_false_iff_not, decide_eq_false_iff_not]
 refine ⟨fun h => ?_, by omega⟩
 rw [h] at h1
 have : bs0.size = 0 := rfl
 omega
theorem AIg {nm : ByteArray} {m : Bx} {l : List Nat} (SL : AI2 nm m l) : l.length ≤ 99999999 := by
 have h1 : ∀ (l : List Nat) (k : Nat), l.Pairwise (· < ·) → (∀ n ∈ l, k < n ∧ n ≤ 99999999) → l.length + k ≤ 99999999 ∨ l = [] := by
  intro l
  induction l with
  | nil => intro k _ _; exact .inr rfl
  | cons a l ih =>
   intro k hp hr
   rw [List.pairwise_cons] at hp
   have ha := hr a (by simp)
   rcases ih a hp.2 (fun n hn => ⟨hp.1 n hn, (hr n (List.mem_cons_of_mem _ hn)).2⟩) with h | h
   ·left; simp only [List.length_cons]; omega
   ·subst h; left; simp; omega
 rcases h1 l 0 SL.inc (fun n hn => by have := (SL.mem n).1 hn; omega) with h | h
 ·omega
 ·subst h; simp
end Go.Lf.G

/-
 A log over a calm box, step by step; a log that is awake (chapter 4).
-/
set_option maxRecDepth 100000
set_option linter.unusedVariables false
set_option linter.unusedSimpArgs false
namespace Go.Lf.G
open Go
structure Lw (h : Heap) (lg b : Nat) (nm : ByteArray) (hh : Heap) (S : Nat → Prop) (m : Bx) (seg : Nat) (made : Bool) : Prop where
 box : BV hh b S m
 log : Cv hh lg b nm seg made
 ext : Ext h hh
 fresh : ∀ c, S c → h.size ≤ c ∧ c ≠ lg
 lgn : h.size ≤ lg
theorem Lw.nS {h : Heap} {lg b : Nat} {nm : ByteArray} {hh : Heap} {S : Nat → Prop} {m : Bx} {seg : Nat} {made : Bool} (W : Lw h lg b nm hh S m seg made) : ¬ S lg := fun hc => (W.fresh _ hc).2 rfl
theorem Lw.on {h : Heap} {lg b : Nat} {nm : ByteArray} {hh h2 : Heap} {S : Nat → Prop} {m : Bx} {seg : Nat} {made : Bool} (W : Lw h lg b nm hh S m seg made) (x : Ext hh h2) : Lw h lg b nm h2 S m seg made :=
 ⟨W.box.ext x, W.log.ext x, W.ext.trans x, W.fresh, W.lgn⟩
theorem Lw.env {h : Heap} {lg b : Nat} {nm : ByteArray} {hh h2 : Heap} {S : Nat → Prop} {m : Bx} {seg : Nat} {made : Bool} (W : Lw h lg b nm hh S m seg made) (E : Evn h) (x : Mod S hh h2) : Evn h2 := E.ext (W.ext.more x fun c hc => (W.fresh c hc).1)
theorem Lw.upd {h : Heap} {lg b : Nat} {nm : ByteArray} {hh h2 : Heap} {S S2 : Nat → Prop} {m m2 : Bx} {seg seg2 : Nat} {made made2 : Bool} (W : Lw h lg b nm hh S m seg made) (B : BV h2 b S2 m2) (L : Cv h2 lg b nm seg2 made2) (x : Mod (fun c => S c ∨ c = lg) hh h2) (s : ∀ c, S2 c → S c ∨ (hh.size ≤ c ∧ c ≠ lg)) : Lw h lg b nm h2 S2 m2 seg2 made2 := by
 have hx := W.ext.size
 refine ⟨B, L, W.ext.more x fun c hc => ?_, fun c hc => ?_, W.lgn⟩
 ·rcases hc with hc | rfl
  ·exact (W.fresh c hc).1
  ·exact W.lgn
 ·rcases s c hc with h | h
  ·exact W.fresh c h
  ·exact ⟨by omega, h.2⟩
def frm (rec : ByteArray) : ByteArray := Aa (Bt (bl rec))
theorem AHe {rec : ByteArray} (h : rec.size ≤ 1048576) : rec.size + 5 ≤ (frm rec).size ∧ (frm rec).size ≤ rec.size + 14 := by
 have := Fa (r := bl rec) (by rw [Bz]; exact h)
 rw [Bz] at this
 rw [frm, AV]
 exact this
theorem Lw.append {A : Amb} {h : Heap} {lg b : Nat} {nm rec : ByteArray} {hh : Heap} {S : Nat → Prop} {m : Bx} {seg : Nat} {made : Bool} {R : Value → Heap → Prop} (W : Lw h lg b nm hh S m seg made) (E : Evn h) (c : Calm m) (h8 : nm.size ≤ 8) (hseg : seg ≤ 99999999) (hr : rec.size ≤ 1048576) (hw : wtF m.files ≤ 8000000000000)
  (H : ∀ h' S' m', Lw h lg b nm h' S' m' seg true → Calm m' → (∀ x, ff m' x = if x = fnB nm seg then some (((ff m (fnB nm seg)).getD (bs0, bs0)).1, ((ff m (fnB nm seg)).getD (bs0, bs0)).2 ++ frm rec) else ff m x) → wtF m'.files ≤ wtF m.files + rec.size + 15 →
   Mod (fun c => S c ∨ c = lg) hh h' → (∀ c, S' c → S c ∨ (hh.size ≤ c ∧ c ≠ lg)) → R (.int .i64 0) h') : AA A P EA #[BC lg, .string rec] hh R := by
 refine Qz (E.ext W.ext) W.log W.box W.nS (fun h' x => W.env E x) (by omega) (by omega) hr hw fun h' S' B' L' md s' => ?_
 obtain ⟨e1, e2⟩ := AAF c.goes (k := fnB nm seg) (d := frm rec) (AAf h8 hseg)
 have e1' : (CX m (fnB nm seg) (Aa (Bt (bl rec)))).1 = 0 := e1
 rw [e1'] at L' ⊢
 rw [decide_eq_true rfl, Bool.or_true] at L'
 have hwt := P7 W.box.good (fnB nm seg) (frm rec)
 have hfs := AHe hr
 exact H h' S' _ (W.upd B' L' md s') (ADm c _ _) e2 (Nat.le_trans hwt (by omega)) md s'
theorem Lw.sync {A : Amb} {h : Heap} {lg b : Nat} {nm : ByteArray} {hh : Heap} {S : Nat → Prop} {m : Bx} {seg : Nat} {made : Bool} {R : Value → Heap → Prop} (W : Lw h lg b nm hh S m seg made) (E : Evn h) (c : Calm m) (h8 : nm.size ≤ 8) (hseg : seg ≤ 99999999) (hm : made = true → (ff m (fnB nm seg)).isSome = true)
  (H : ∀ h' m', Lw h lg b nm h' S m' seg made → Calm m' → (∀ x, ff m' x = if x = fnB nm seg ∧ made = true then (ff m x).map (fun p => (p.1 ++ p.2, bs0)) else ff m x) → wtF m'.files ≤ wtF m.files → Mod S hh h' → R (.int .i64 0) h') : AA A P Ey #[BC lg] hh R := by
 refine WZ (E.ext W.ext) W.log W.box W.nS (by omega) (by omega) fun h' B' L' md => ?_
 cases made with
 | false =>
  exact H h' m (W.upd B' L' (md.weak fun c _ hc => .inl hc) fun c hc => .inl hc) c (fun x => by rw [if_neg (by simp)]) (Nat.le_refl _) md
 | true =>
  obtain ⟨p, hp⟩ := Option.isSome_iff_exists.1 (hm rfl)
  obtain ⟨e1, e2⟩ := AFV c.goes hp
  have e1' : (Ik m (fnB nm seg) true).1 = 0 := e1
  rw [e1']
  refine H h' _ (W.upd B' L' (md.weak fun c _ hc => .inl hc) fun c hc => .inl hc) (AGh c _) (fun x => ?_) (Sk W.box.good _) md
  show ff (EO m (fnB nm seg)).2 x = _
  rw [e2]
  by_cases hx : x = fnB nm seg
  ·subst hx; rw [if_pos rfl, if_pos ⟨rfl, rfl⟩, hp]; rfl
  ·rw [if_neg hx, if_neg (fun h => hx h.1)]
abbrev nx : ByteArray := ⟨#[120]⟩
end Go.Lf.G

