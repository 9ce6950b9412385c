/-
 LIFT, part U22: an element laid ahead of an owned slice (what slices.Insert does at place 0).
-/
import Derived.Test.YtdmlhpjdmgaggaaGreatDoorLfU3ToB1
import Derived.Test.YtdmlhpjdmgaggaaGreatDoorLfGToH
import Derived.Lib.AppendZerosOnto
import Derived.Lib.Overlaps
import Derived.Laws.IdiomCopy
import Derived.Laws.Externs
import Derived.Test.YtdmlhpjdmgaggaaGreatDoorLfX2ToM2
import Derived.Test.YtdmlhpjdmgaggaaGreatDoorLfM12ToX5
import Derived.Test.YtdmlhpjdmgaggaaGreatDoorLfZ1ToZ3
set_option linter.unusedVariables false
set_option linter.unusedSimpArgs false
set_option maxRecDepth 100000
set_option linter.unusedVariables false
set_option linter.unusedSimpArgs false
namespace Go.Lf
open Go
variable {α : Type} {E : Enc α} {A : Amb} {P : Program}
def AB7 (cs : Array Value) : Nat → List Value → Array Value
 | _, [] => cs
 | o, v :: r => AB7 (cs.setIfInBounds o v) (o + 1) r
theorem Gn : ∀ (vs : List Value) (cs : Array Value) (o : Nat), (AB7 cs o vs).size = cs.size
 | [], _, _ => rfl
 | v :: r, cs, o => by unfold AB7; rw [Gn r]; simp
theorem MZ : ∀ (vs : List Value) (cs : Array Value) (o : Nat), o + vs.length ≤ cs.size → (AB7 cs o vs).toList = cs.toList.take o ++ vs ++ cs.toList.drop (o + vs.length)
 | [], cs, o, h => by simp [AB7]
 | v :: r, cs, o, h => by
  have hl : cs.size = cs.toList.length := by simp
  simp only [List.length_cons] at h
  unfold AB7
  rw [MZ r _ (o + 1) (by simp; omega)]
  rw [Array.toList_setIfInBounds, List.take_add_one, List.take_set_of_le (Nat.le_refl _), List.getElem?_set_self (by omega), List.drop_set_of_lt (by omega)]
  simp only [Option.toList_some, List.append_assoc, List.singleton_append, List.length_cons, List.cons_append, List.nil_append]
  rw [show o + 1 + r.length = o + (r.length + 1) by omega]
theorem setCells_at {A : Amb} : ∀ (vs : List Value) (o : Nat) {h : Heap} {n b : Nat} {cs : Array Value} {T : TypeId}, h[b]? = some (.cells cs T (0, 0)) → ∃ h', (A.at h n).setCells b o vs = A.at h' n ∧ h'[b]? = some (.cells (AB7 cs o vs) T (0, 0)) ∧ Mod (· = b) h h' ∧ h'.size = h.size
 | [], o, h, n, b, cs, T, hb => ⟨h, rfl, hb, Mod.refl, rfl⟩
 | v :: r, o, h, n, b, cs, T, hb => by
  have hb1 : (hset h ⟨b, o, none⟩ v)[b]? = some (.cells (cs.setIfInBounds o v) T (0, 0)) := AAL hb
  obtain ⟨h', e1, e2, e3, e4⟩ := setCells_at (A := A) r (o + 1) (n := n) hb1
  refine ⟨h', ?_, e2, (Mod.set (S := (· = b)) (a := ⟨b, o, none⟩) rfl).trans e3, by rw [e4, Ud]⟩
  show ((A.at h n).setCell ⟨b, o, none⟩ v).setCells b (o + 1) r = _
  rw [← e1]; rfl
theorem AIN {t ti ty T : TypeId} {i : TypeInfo} {zv : Value} (ht : P.underlying t = some (.slice T)) (hti : P.underlying ti = some (.int .i64)) (hi : P.info? T = some i) (hz : i.zero = some zv) (h1 : i.size = 1) (hzc : zv.cells = #[zv]) {h : Heap} {p : Option Addr} {cap k : Nat} {K : Sl → Heap → Prop}
  (h0 : 0 < k) (hg : cap < k) (hk : k * i.bytes ≤ 140737488355328) (hm : k ≤ maxLen) (hb : 0 < i.bytes)
  (H : ∀ h' c cs, h'[h.size]? = some (.cells cs T (0, 0)) → cs.size = c → k ≤ c → c ≤ maxLen → Ext h h' → h'.size = h.size + 1 → K ⟨some ⟨h.size, 0, none⟩, k, c⟩ h') :
  Ba A P (Builtin.append_ #[t, ti] ty #[.slice p 0 cap, .int .i64 (k : Int)]) h fun v h' => ∃ s' : Sl, v = .slice s'.p s'.len s'.cap ∧ K s' h' := by
 intro n
 have hold : (Builtin.firstCells i.size 0 (.slice p 0 cap)).run P (A.at h n).drew = .ok ([] : List Value).toArray (A.at h n).drew := by
  cases p <;> simp [Builtin.firstCells, loadCells, loadCellsFrom]
 have hfit : Builtin.nextslicecap (0 + k) cap * i.bytes ≤ 281474976710656 := by rw [Nat.zero_add]; exact growslice_fits (by omega) hk
 have hr := Lib.run_append_grow_zeros (A.at h n) t ti ty T i zv .i64 .i64 ht hti hi hz p 0 cap [] hold k h0 (by omega) (by omega) (by simp only [maxLen] at hm; omega) (by omega) hfit
 simp only [Nat.zero_add] at hr
 have hc1 := grownCap_ge (A.at h n) k cap T
 have hc2 := grownCap_le_maxLen (A.at h n) k cap T hm
 generalize grownCap (A.at h n) k cap T = c at *
 refine ⟨_, _, n + 1, hr, ⟨some ⟨h.size, 0, none⟩, k, c⟩, rfl, H _ c _ (Array.getElem?_push_size ..) ?_ hc1 hc2 (Mod.push h _) (by show (h.push _).size = h.size + 1; simp)⟩
 simp [Builtin.zeroCells, hzc]
 omega
theorem AFq {t ty T : TypeId} (ht : P.underlying t = some (.slice T)) (hs : (P.info? T).map (·.size) = some 1) {h : Heap} {b o dLen dCap sLen sCap : Nat} {a : Addr} {cs : Array Value} {vs : List Value} {K : Int → Heap → Prop}
  (hb : h[b]? = some (.cells cs T (0, 0))) (hn : vs.length = min sLen dLen) (hsrc : ∀ j v, vs[j]? = some v → hget h (a.add j) = some v) (hsz : o + vs.length ≤ cs.size) (h1 : ∀ v ∈ vs, I1 v = true)
  (H : ∀ h', h'[b]? = some (.cells (AB7 cs o vs) T (0, 0)) → Mod (· = b) h h' → h'.size = h.size → K (vs.length : Int) h') :
  Ba A P (Builtin.copy_ #[t, t] ty #[.slice (some ⟨b, o, none⟩) dLen dCap, .slice (some a) sLen sCap]) h fun v h' => ∃ k : Int, v = .int .i64 k ∧ K k h' := by
 intro n
 have hr := run_copy_cells (P := P) (A.at h n) t t ty T b o dLen dCap a sLen sCap vs ht hs hn hsrc
  (fun j hj => by
   show (hget h ⟨b, o + j, none⟩).isSome = true
   rw [Hr hb, Array.getElem?_eq_getElem (by omega)]; rfl)
  (fun j hj => NG hb) (fun v hv => Un (h1 v hv))
 obtain ⟨h', e1, e2, e3, e4⟩ := setCells_at (A := A) vs o (n := n) hb
 rw [e1] at hr
 exact ⟨_, h', n, hr, _, rfl, H h' e2 e3 e4⟩
def AJx (A : Amb) (P : Program) (t ti : TypeId) (fo fr : FuncId) (s : Sl) (i : Int) (v : Sl) (h : Heap) (R : Value → Heap → Prop) : Prop :=
 Chk ((0 : Int) ≤ i ∧ i ≤ ((s.len : Nat) : Int)) <|
 PIf (((v.len : Nat) : Int) == (0 : Int)) (
  R (.slice s.p s.len s.cap) h) (
  PIf (i == ((s.len : Nat) : Int)) (
   Ba A P (Builtin.append_ #[t, t] t #[.slice s.p s.len s.cap, .slice v.p v.len v.cap]) h fun v1 h1 => ∃ t25 : Sl, v1 = .slice t25.p t25.len t25.cap ∧ (
   R (.slice t25.p t25.len t25.cap) h1)) (
   PIf (decide ((IntKind.wrap .i64 (((s.len : Nat) : Int) + ((v.len : Nat) : Int))) > ((s.cap : Nat) : Int))) (
    Chk ((0 : Int) ≤ i ∧ i ≤ ((s.cap : Nat) : Int)) <|
    Ba A P (Builtin.append_ #[t, ti] t #[.slice (Ao s.p s.cap 0 1) (i.toNat - 0) (s.cap - 0), .int .i64 (IntKind.wrap .i64 ((IntKind.wrap .i64 (((s.len : Nat) : Int) + ((v.len : Nat) : Int))) - i))]) h fun v2 h2 => ∃ t40 : Sl, v2 = .slice t40.p t40.len t40.cap ∧ (
    Chk ((0 : Int) ≤ i ∧ i ≤ ((t40.len : Nat) : Int)) <|
    Ba A P (Builtin.copy_ #[t, t] ti #[.slice (Ao t40.p t40.cap i.toNat 1) (t40.len - i.toNat) (t40.cap - i.toNat), .slice v.p v.len v.cap]) h2 fun v3 h3 => ∃ t45 : Int, v3 = .int .i64 t45 ∧ (
    Chk ((0 : Int) ≤ (IntKind.wrap .i64 (i + ((v.len : Nat) : Int))) ∧ (IntKind.wrap .i64 (i + ((v.len : Nat) : Int))) ≤ ((t40.len : Nat) : Int)) <|
    Chk ((0 : Int) ≤ i ∧ i ≤ ((s.len : Nat) : Int)) <|
    Ba A P (Builtin.copy_ #[t, t] ti #[.slice (Ao t40.p t40.cap ((IntKind.wrap .i64 (i + ((v.len : Nat) : Int))).toNat) 1) (t40.len - ((IntKind.wrap .i64 (i + ((v.len : Nat) : Int))).toNat)) (t40.cap - ((IntKind.wrap .i64 (i + ((v.len : Nat) : Int))).toNat)), .slice (Ao s.p s.cap i.toNat 1) (s.len - i.toNat) (s.cap - i.toNat)]) h3 fun v4 h4 => ∃ t54 : Int, v4 = .int .i64 t54 ∧ (
    R (.slice t40.p t40.len t40.cap) h4)))) (
    Chk ((0 : Int) ≤ (IntKind.wrap .i64 (((s.len : Nat) : Int) + ((v.len : Nat) : Int))) ∧ (IntKind.wrap .i64 (((s.len : Nat) : Int) + ((v.len : Nat) : Int))) ≤ ((s.cap : Nat) : Int)) <|
    Chk ((0 : Int) ≤ (IntKind.wrap .i64 (i + ((v.len : Nat) : Int))) ∧ (IntKind.wrap .i64 (i + ((v.len : Nat) : Int))) ≤ (((((IntKind.wrap .i64 (((s.len : Nat) : Int) + ((v.len : Nat) : Int))).toNat) - 0) : Nat) : Int)) <|
    AJS A P fo #[.slice v.p v.len v.cap, .slice (Ao (Ao s.p s.cap 0 1) (s.cap - 0) ((IntKind.wrap .i64 (i + ((v.len : Nat) : Int))).toNat) 1) ((((IntKind.wrap .i64 (((s.len : Nat) : Int) + ((v.len : Nat) : Int))).toNat) - 0) - ((IntKind.wrap .i64 (i + ((v.len : Nat) : Int))).toNat)) ((s.cap - 0) - ((IntKind.wrap .i64 (i + ((v.len : Nat) : Int))).toNat))] h fun v5 h5 => ∃ t67 : Bool, v5 = .bool t67 ∧ (
    PIf (!t67) (
     Chk ((0 : Int) ≤ (IntKind.wrap .i64 (i + ((v.len : Nat) : Int))) ∧ (IntKind.wrap .i64 (i + ((v.len : Nat) : Int))) ≤ (((((IntKind.wrap .i64 (((s.len : Nat) : Int) + ((v.len : Nat) : Int))).toNat) - 0) : Nat) : Int)) <|
     Chk ((0 : Int) ≤ i ∧ i ≤ (((((IntKind.wrap .i64 (((s.len : Nat) : Int) + ((v.len : Nat) : Int))).toNat) - 0) : Nat) : Int)) <|
     Ba A P (Builtin.copy_ #[t, t] ti #[.slice (Ao (Ao s.p s.cap 0 1) (s.cap - 0) ((IntKind.wrap .i64 (i + ((v.len : Nat) : Int))).toNat) 1) ((((IntKind.wrap .i64 (((s.len : Nat) : Int) + ((v.len : Nat) : Int))).toNat) - 0) - ((IntKind.wrap .i64 (i + ((v.len : Nat) : Int))).toNat)) ((s.cap - 0) - ((IntKind.wrap .i64 (i + ((v.len : Nat) : Int))).toNat)), .slice (Ao (Ao s.p s.cap 0 1) (s.cap - 0) i.toNat 1) ((((IntKind.wrap .i64 (((s.len : Nat) : Int) + ((v.len : Nat) : Int))).toNat) - 0) - i.toNat) ((s.cap - 0) - i.toNat)]) h5 fun v6 h6 => ∃ t77 : Int, v6 = .int .i64 t77 ∧ (
     Chk ((0 : Int) ≤ i ∧ i ≤ (((((IntKind.wrap .i64 (((s.len : Nat) : Int) + ((v.len : Nat) : Int))).toNat) - 0) : Nat) : Int)) <|
     Ba A P (Builtin.copy_ #[t, t] ti #[.slice (Ao (Ao s.p s.cap 0 1) (s.cap - 0) i.toNat 1) ((((IntKind.wrap .i64 (((s.len : Nat) : Int) + ((v.len : Nat) : Int))).toNat) - 0) - i.toNat) ((s.cap - 0) - i.toNat), .slice v.p v.len v.cap]) h6 fun v7 h7 => ∃ t82 : Int, v7 = .int .i64 t82 ∧ (
     R (.slice (Ao s.p s.cap 0 1) (((IntKind.wrap .i64 (((s.len : Nat) : Int) + ((v.len : Nat) : Int))).toNat) - 0) (s.cap - 0)) h7))) (
     Chk ((0 : Int) ≤ ((s.len : Nat) : Int) ∧ ((s.len : Nat) : Int) ≤ (((((IntKind.wrap .i64 (((s.len : Nat) : Int) + ((v.len : Nat) : Int))).toNat) - 0) : Nat) : Int)) <|
     Ba A P (Builtin.copy_ #[t, t] ti #[.slice (Ao (Ao s.p s.cap 0 1) (s.cap - 0) (((s.len : Nat) : Int).toNat) 1) ((((IntKind.wrap .i64 (((s.len : Nat) : Int) + ((v.len : Nat) : Int))).toNat) - 0) - (((s.len : Nat) : Int).toNat)) ((s.cap - 0) - (((s.len : Nat) : Int).toNat)), .slice v.p v.len v.cap]) h5 fun v8 h8 => ∃ t88 : Int, v8 = .int .i64 t88 ∧ (
     Chk ((0 : Int) ≤ i ∧ i ≤ (((((IntKind.wrap .i64 (((s.len : Nat) : Int) + ((v.len : Nat) : Int))).toNat) - 0) : Nat) : Int)) <|
     AA A P fr #[.slice (Ao (Ao s.p s.cap 0 1) (s.cap - 0) i.toNat 1) ((((IntKind.wrap .i64 (((s.len : Nat) : Int) + ((v.len : Nat) : Int))).toNat) - 0) - i.toNat) ((s.cap - 0) - i.toNat), .int .i64 ((v.len : Nat) : Int)] h8 fun v9 h9 => v9 = .tuple #[] ∧ (
     R (.slice (Ao s.p s.cap 0 1) (((IntKind.wrap .i64 (((s.len : Nat) : Int) + ((v.len : Nat) : Int))).toNat) - 0) (s.cap - 0)) h9)))))))
theorem RP {h : Heap} {b : Nat} {cs : Array Value} {T : TypeId} {fr : Nat × Nat} (hb : h[b]? = some (.cells cs T fr)) {vs : List Value} {o : Nat} (hv : (cs.toList.drop o).take vs.length = vs) : ∀ j v, vs[j]? = some v → hget h ((⟨b, o, none⟩ : Addr).add j) = some v := fun j v hj => by
 rw [Bw, Hr hb]
 have hlt := (List.getElem?_eq_some_iff.1 hj).1
 rw [← hv, List.getElem?_take, if_pos hlt, List.getElem?_drop] at hj
 simpa using hj
theorem AAX {t ti T tR : TypeId} {fo fr : FuncId} {zv : Value} {B : Nat} (hT : Q5 P t T 1 B = true) (hw : E.w = 1) (hti : P.underlying ti = some (.int .i64)) (hz : (P.info? T).bind (·.zero) = some zv) (hzc : zv.cells = #[zv]) (hB : 0 < B)
  (hov : ∀ args w, (callFunc fo args).run P w = ((Extern.SlicesOverlaps.overlaps #[t, t] #[tR] args).run P w).andThen fun v w' => .ok (.value v) w')
  {h : Heap} {s : Sl} {l : List α} {x : α} {xv : Value} {vb : Nat} (o : Own E T h s l) (hx : E.enc x = [xv]) (hv : h[vb]? = some (.cells #[xv] T (0, 0))) (hne : s.blk ≠ some vb) (hl : l.length + 1 ≤ maxLen) (hlb : (l.length + 1) * B ≤ 140737488355328) {R : Value → Heap → Prop}
  (H : ∀ s' h', Own E T h' s' (x :: l) → Mod (fun b => s.blk = some b) h h' → (∀ b, s'.blk = some b → s.blk = some b ∨ h.size ≤ b) → R (.slice s'.p s'.len s'.cap) h') :
  AJx A P t ti fo fr s (0 : Int) ⟨some ⟨vb, 0, none⟩, 1, 1⟩ h R := by
 unfold AJx
 have hlen := o.len
 have hmx : maxLen ≤ 9223372036854775807 := by simp [maxLen]
 obtain ⟨ht, i, z, hi, hzz, hsz, hby, hzs⟩ := ZT hT
 have ez : z = zv := by
  rw [hi] at hz
  simp only [Option.bind_some] at hz
  rw [hzz] at hz
  exact Option.some.inj hz
 subst ez
 have hone : I1 xv = true := E.one x xv (by rw [hx]; simp)
 have hvb := Am hv
 refine ⟨⟨Int.le_refl _, by omega⟩, PIf.no rfl ?_⟩
 refine PIf.intro (fun q => ?_) (fun q => ?_)
 ·have q : l = [] := by
   have : (0 : Int) = ((s.len : Nat) : Int) := by simpa using q
   exact List.eq_nil_of_length_eq_zero (by omega)
  subst q
  have hvw : View E h ⟨some ⟨vb, 0, none⟩, 1, 1⟩ [x] := ⟨rfl, Nat.le_refl _, fun j y hj => ⟨_, rfl, fun k u hk => by
   have hj0 : j = 0 := by
    have := (List.getElem?_eq_some_iff.1 hj).1
    simpa using this
   subst hj0
   simp only [List.getElem?_cons_zero, Option.some.injEq] at hj
   subst hj
   rw [hx] at hk
   have hk0 : k = 0 := by
    have := (List.getElem?_eq_some_iff.1 hk).1
    simpa using this
   subst hk0
   simp only [List.getElem?_cons_zero, Option.some.injEq] at hk
   subst hk
   rw [Nat.zero_mul, Bw, Bw]
   exact AJ hv rfl⟩⟩
  have hT' : Q5 P t T E.w B = true := by rw [hw]; exact hT
  exact GZ (s := s) (src := ⟨some ⟨vb, 0, none⟩, 1, 1⟩) hT' o hvw (by simpa using hlb) (by simpa using hl) fun s' h' o' m' b' _ => H s' h' o' m' b'
 ·have hpos : 0 < l.length := by
   have : ¬ (0 : Int) = ((s.len : Nat) : Int) := by simpa using q
   omega
  rcases o.row with ⟨rfl, rfl⟩ | ⟨g, cur, hp, hg, hc1, hc2, hc3, hc4⟩
  ·simp at hpos
  ·rw [hw, Nat.mul_one] at hc3 hc4
   have hflat : (l.flatMap E.enc).length = l.length := by rw [H6, hw, Nat.mul_one]
   have hone2 : ∀ v ∈ l.flatMap E.enc, I1 v = true := fun v hv' => by
    obtain ⟨y, _, hy⟩ := List.mem_flatMap.1 hv'
    exact E.one y v hy
   have hgv : g ≠ vb := fun e => hne (by rw [Sl.blk, hp, e]; rfl)
   have hgb := Am hg
   have w1 : IntKind.wrap .i64 (((s.len : Nat) : Int) + (((1 : Nat)) : Int)) = ((l.length + 1 : Nat) : Int) := by rw [hlen]; exact AR (by omega)
   have w2 : IntKind.wrap .i64 ((0 : Int) + (((1 : Nat)) : Int)) = ((1 : Nat) : Int) := by decide
   have w3 : IntKind.wrap .i64 (((l.length + 1 : Nat) : Int) - (0 : Int)) = ((l.length + 1 : Nat) : Int) := by rw [Int.sub_zero]; exact FV (by omega)
   have sz1 : (P.info? T).map (·.size) = some 1 := by rw [hi]; simp [hsz]
   dsimp only
   rw [w1, w2, w3]
   have tn1 : ((1 : Nat) : Int).toNat = 1 := rfl
   have tn0 : (0 : Int).toNat = 0 := rfl
   have tnl : ((l.length + 1 : Nat) : Int).toNat = l.length + 1 := by omega
   rw [tn1, tn0, tnl]
   have xvl : ∀ j v, [xv][j]? = some v → hget h ((⟨vb, 0, none⟩ : Addr).add j) = some v := RP hv (by simp)
   refine PIf.intro (fun q2 => ?_) (fun q2 => ?_)
   ·have hroom : s.cap < l.length + 1 := by
     have : ((s.cap : Nat) : Int) < ((l.length + 1 : Nat) : Int) := by simpa using q2
     omega
    refine ⟨⟨Int.le_refl _, by omega⟩, ?_⟩
    refine AIN (p := Ao s.p s.cap 0 1) (cap := s.cap) ht hti hi hzz hsz hzc (by omega) hroom (by rw [hby]; exact hlb) hl (by omega) fun h2 c cs hb2 hcs hkc hcm x2 hs2 => ⟨⟨Int.le_refl _, by dsimp only; omega⟩, ?_⟩
    have e1 : Ao (some (⟨h.size, 0, none⟩ : Addr)) c 0 1 = some ⟨h.size, 0, none⟩ := by
     unfold Ao; rw [if_neg (by omega)]; rfl
    have e2 : Ao (some (⟨h.size, 0, none⟩ : Addr)) c 1 1 = some ⟨h.size, 1, none⟩ := by
     unfold Ao; rw [if_neg (by omega)]; rfl
    dsimp only
    rw [e1]
    refine AFq (vs := [xv]) ht sz1 hb2 (by simp) (fun j v hj => x2.hget (xvl j v hj)) (by simp; omega) (fun v hv' => by rw [List.mem_singleton.1 hv']; exact hone) fun h3 hb3 m3 hs3 => ⟨⟨by omega, by omega⟩, ⟨Int.le_refl _, by omega⟩, ?_⟩
    rw [e2, hp]
    have e3 : Ao (some (⟨g, 0, none⟩ : Addr)) s.cap 0 1 = some ⟨g, 0, none⟩ := by
     unfold Ao; rw [if_neg (by omega)]; rfl
    rw [e3]
    have hg3 : h3[g]? = some (.cells cur T (0, 0)) := m3.blk (x2.blk hg (fun h => h)) (by omega)
    refine AFq (vs := l.flatMap E.enc) ht sz1 hb3 (by rw [hflat]; omega) (RP hg3 (by rw [hflat, List.drop_zero, ← hlen]; exact hc4)) (by rw [Gn, hflat]; omega) hone2 fun h4 hb4 m4 hs4 => ?_
    refine H ⟨some ⟨h.size, 0, none⟩, l.length + 1, c⟩ h4 ⟨rfl, .inr ⟨h.size, _, rfl, hb4, hkc, hcm, by rw [Gn, Gn, hw, Nat.mul_one]; exact hcs, ?_⟩⟩ ?_ (fun b hb => .inr (by simp [Sl.blk] at hb; omega))
    ·rw [MZ _ _ _ (by rw [Gn, hflat]; omega), MZ _ _ _ (by simp; omega)]
     rw [hw, Nat.mul_one, List.flatMap_cons, hx]
     have hcl : cs.toList.length = c := by simp [hcs]
     simp only [List.take_zero, List.nil_append, List.length_singleton]
     have f1 : (([xv] ++ cs.toList.drop (0 + 1)).take 1) = [xv] := by simp
     rw [f1, List.take_append_of_le_length (by simp [hflat])]
     rw [List.take_of_length_le (by simp [hflat])]
    ·refine ((Ext.mod x2).trans ((m3.trans m4).weak (S' := fun b => s.blk = some b ∨ b = h.size) fun c hc e => .inr e)) |> fun hm => ?_
     exact ⟨hm.size, fun b hb hn => hm.get b hb (fun hh => hh.elim hn (by omega))⟩
   ·have hroom : l.length + 1 ≤ s.cap := by
     have : ¬ ((s.cap : Nat) : Int) < ((l.length + 1 : Nat) : Int) := by simpa using q2
     omega
    have e3 : ∀ c, 0 < c → Ao (some (⟨g, 0, none⟩ : Addr)) c 0 1 = some ⟨g, 0, none⟩ := fun c hc => by
     unfold Ao; rw [if_neg (by omega)]; rfl
    have e4 : ∀ c, 1 < c → Ao (some (⟨g, 0, none⟩ : Addr)) c 1 1 = some ⟨g, 1, none⟩ := fun c hc => by
     unfold Ao; rw [if_neg (by omega)]; rfl
    refine ⟨⟨by omega, by omega⟩, ⟨by omega, by omega⟩, ?_⟩
    rw [hp, e3 _ (by omega), Nat.sub_zero, Nat.sub_zero, Nat.sub_zero, e3 _ (by omega), e4 _ (by omega)]
    intro n
    refine ⟨.bool false, h, n, ?_, false, rfl, PIf.yes rfl ⟨⟨by omega, by omega⟩, ⟨Int.le_refl _, by omega⟩, ?_⟩⟩
    ·rw [hov, Lib.run_overlaps_apart (A.at h n) t tR T ht 1 (fun w => by rw [Go.run_sizeOf w hi]; simp [Program.cellsOf, hi, hsz]) ⟨vb, 0, none⟩ ⟨g, 1, none⟩ 1 1 _ _ (fun e => hgv e.symm) T T 1 s.cap
      (by show (match h[vb]? with | some (.cells c elem _) => some (elem, c.size) | _ => none) = _; rw [hv]; rfl) (by show (match h[g]? with | some (.cells c elem _) => some (elem, c.size) | _ => none) = _; rw [hg]; simp [hc3]) (by omega) (NG hv) (NG hv)]
     rfl
    ·refine AFq (vs := l.flatMap E.enc) ht sz1 hg (by rw [hflat]; omega) (RP hg (by rw [hflat, List.drop_zero, ← hlen]; exact hc4)) (by rw [hflat]; omega) hone2 fun h4 hb4 m4 hs4 => ⟨⟨Int.le_refl _, by omega⟩, ?_⟩
     refine AFq (vs := [xv]) ht sz1 hb4 (by simp) (fun j v hj => m4.hget (xvl j v hj) (by rw [add_block]; exact fun e => hgv e.symm)) (by rw [Gn]; simp; omega) (fun v hv' => by rw [List.mem_singleton.1 hv']; exact hone) fun h5 hb5 m5 hs5 => ?_
     refine H ⟨some ⟨g, 0, none⟩, l.length + 1, s.cap⟩ h5 ⟨rfl, .inr ⟨g, _, rfl, hb5, hroom, hc2, by rw [Gn, Gn, hw, Nat.mul_one]; exact hc3, ?_⟩⟩ ((m4.trans m5).weak fun b _ e => by rw [Sl.blk, hp, e]; rfl) (fun b hb => .inl (by rw [Sl.blk, hp]; exact hb))
     rw [MZ _ _ _ (by rw [Gn]; simp; omega), MZ _ _ _ (by rw [hflat]; omega)]
     rw [hw, Nat.mul_one, List.flatMap_cons, hx]
     have hcl : cur.toList.length = s.cap := by simp [hc3]
     have hd1 : (cur.toList.take 1).length = 1 := by simp; omega
     simp only [List.take_zero, List.nil_append, List.length_singleton, Nat.zero_add]
     rw [List.append_assoc (cur.toList.take 1), List.drop_append_of_le_length (by omega), List.drop_of_length_le (by omega), List.nil_append]
     rw [← List.append_assoc, List.take_append_of_le_length (by simp [hflat])]
     rw [List.take_of_length_le (by simp [hflat])]
end Go.Lf

/-
 Contracts: slices.Insert of one element at place 0, of tables and of integers.
-/
set_option maxRecDepth 100000
set_option linter.unusedVariables false
set_option linter.unusedSimpArgs false
namespace Go.Lf.G
open Go
def PtE : Enc Nat where
 enc t := [BC t]
 w := 1
 len _ := rfl
 pos := by omega
 one x v hv := by simp at hv; subst hv; rfl
theorem Cells.pt {h : Heap} {a : Addr} {x : Nat} (c : Cells h a (PtE.enc x)) : hget h a = some (BC x) := by
 have h0 := c 0 _ rfl
 rwa [add_zero] at h0
theorem AIX : Q5 P Ae Aq PtE.w 8 = true := by kernel_rfl
theorem ovT (args : Array Value) (w : World) : (callFunc Cu args).run P w = ((Extern.SlicesOverlaps.overlaps #[Ae, Ae] #[Jj] args).run P w).andThen fun v w' => .ok (.value v) w' :=
 run_callFunc_extern (fn := Proofs.Tryz.f119) Proofs.Tryz.func119 (by kernel_rfl) (by kernel_rfl) (by kernel_rfl) (by kernel_rfl) args w
theorem ovI (args : Array Value) (w : World) : (callFunc Ee args).run P w = ((Extern.SlicesOverlaps.overlaps #[Bl, Bl] #[Jj] args).run P w).andThen fun v w' => .ok (.value v) w' :=
 run_callFunc_extern (fn := Proofs.Tryz.f121) Proofs.Tryz.func121 (by kernel_rfl) (by kernel_rfl) (by kernel_rfl) (by kernel_rfl) args w
theorem ALM : (P.info? Aq).bind (·.zero) = some (.pointer none) := by kernel_rfl
theorem ALj : (P.info? BO).bind (·.zero) = some (.int .i64 0) := by kernel_rfl
theorem AFe : P.underlying BO = some (.int .i64) := by kernel_rfl
theorem AK6 (A : Amb) (s v : Sl) (i : Int) (h : Heap) (R : Value → Heap → Prop) : Bp A s i v h R = AJx A P Ae BO Cu Dr s i v h R := rfl
theorem AKc (A : Amb) (s v : Sl) (i : Int) (h : Heap) (R : Value → Heap → Prop) : Dp A s i v h R = AJx A P Bl BO Ee F4 s i v h R := rfl
theorem ABB {A : Amb} {h : Heap} {s : Sl} {l : List Nat} {x vb : Nat} {R : Value → Heap → Prop} (o : Own PtE Aq h s l) (hv : h[vb]? = some (.cells #[BC x] Aq (0, 0))) (hne : s.blk ≠ some vb) (hl : l.length ≤ 1000000)
  (H : ∀ s' h', Own PtE Aq h' s' (x :: l) → Mod (fun b => s.blk = some b) h h' → (∀ b, s'.blk = some b → s.blk = some b ∨ h.size ≤ b) → R (.slice s'.p s'.len s'.cap) h') :
  AA A P Aj #[.slice s.p s.len s.cap, .int .i64 0, .slice (some (⟨vb, 0, none⟩ : Addr)) 1 1] h R := by
 refine EP (v := ⟨some ⟨vb, 0, none⟩, 1, 1⟩) ?_
 rw [AK6]
 exact AAX AIX rfl AFe ALM rfl (by decide) ovT o rfl hv hne (by simp [maxLen]; omega) (by omega) H
theorem ABo {A : Amb} {h : Heap} {s : Sl} {l : List Int} {x : Int} {vb : Nat} {R : Value → Heap → Prop} (o : Own EZ BO h s l) (hv : h[vb]? = some (.cells #[.int .i64 x] BO (0, 0))) (hne : s.blk ≠ some vb) (hl : l.length ≤ 1000000)
  (H : ∀ s' h', Own EZ BO h' s' (x :: l) → Mod (fun b => s.blk = some b) h h' → (∀ b, s'.blk = some b → s.blk = some b ∨ h.size ≤ b) → R (.slice s'.p s'.len s'.cap) h') :
  AA A P Bf #[.slice s.p s.len s.cap, .int .i64 0, .slice (some (⟨vb, 0, none⟩ : Addr)) 1 1] h R := by
 refine JO (v := ⟨some ⟨vb, 0, none⟩, 1, 1⟩) ?_
 rw [AKc]
 exact AAX Wz rfl AFe ALj rfl (by decide) ovI o rfl hv hne (by simp [maxLen]; omega) (by omega) H
end Go.Lf.G

/-
 A store in memory (chapter 9): where its parts lie, and what is kept of them.
-/
set_option maxRecDepth 100000
set_option linter.unusedVariables false
set_option linter.unusedSimpArgs false
namespace Go.Lf.G
open Go
structure Db where
 fr : List Pr
 ts : List (Nat × List Pr)
 next : Nat
 frm : Nat
 lseg : Nat
 nseg : Nat
 lmade : Bool
structure Hp where
 d : Nat
 b : Nat
 lg : Nat
 nt : Nat
 ft : Nat
 Sb : Nat → Prop
 ns : List M.CK
 tp : Sl
 np : Sl
 ps : List Nat
abbrev dbC (q : Hp) (st : Db) (down : Bool) : Array Value := #[BC q.b, BC q.lg, BC q.nt, BC q.ft, .slice q.tp.p q.tp.len q.tp.cap, .slice q.np.p q.np.len q.np.cap, .int .i64 (st.next : Int), .int .i64 (st.frm : Int), .bool down]
abbrev nmS (st : Db) : List Int := st.ts.map fun p => (p.1 : Int)
def AHz (h : Heap) (k : Nat → Nat) (t : Nat) (l : List Pr) : Prop := ∃ lo hi, TabAt h t l (JS l) lo hi ∧ hi ≤ h.size ∧ (∀ c, lo ≤ c → c < hi → k c = 8) ∧ Eu l
structure DbH (g h : Heap) (q : Hp) (k : Nat → Nat) (st : Db) (m : Bx) : Prop where
 cell : h[q.d]? = some (.cells (dbC q st false) De (0, 0))
 box : BV h q.b q.Sb m
 log : Cv h q.lg q.b nl st.lseg st.lmade
 nts : Cv h q.nt q.b nn st.nseg false
 fresh : M.Tab h q.ft q.ns st.fr
 tabs : Own PtE Aq h q.tp q.ps
 tlen : q.ps.length = st.ts.length
 tab : ∀ (i : Nat) (t : Nat) (p : Nat × List Pr), q.ps[i]? = some t → st.ts[i]? = some p → AHz h k t p.2
 names : Own EZ BO h q.np (nmS st)
 kd : k q.d = 1
 kb : ∀ c, q.Sb c → k c = 2
 kl : k q.lg = 3
 kn : k q.nt = 4
 kf : ∀ c, M.inT q.ft q.ns c → k c = 5
 kt : ∀ c, q.tp.blk = some c → k c = 6
 kx : ∀ c, q.np.blk = some c → k c = 7
 own : ∀ c, k c ≠ 0 → g.size ≤ c ∧ c < h.size
 ext : Ext g h
theorem Pj {α : Type} {E : Enc α} {T : TypeId} {h : Heap} {s : Sl} {l : List α} (o : Own E T h s l) {c : Nat} (hc : s.blk = some c) : c < h.size := by
 rcases o.row with ⟨rfl, _⟩ | ⟨g, cur, hp, hg, _⟩
 ·simp [Sl.blk] at hc
 ·rw [Sl.blk, hp] at hc
  have : g = c := by simpa using hc
  subst this; exact Am hg
theorem AHz.mod {h h' : Heap} {k k' : Nat → Nat} {t : Nat} {l : List Pr} {S : Nat → Prop} (T : AHz h k t l) (x : Mod S h h') (hS : ∀ c, k c = 8 → ¬ S c) (hk : ∀ c, c < h.size → k' c = k c) : AHz h' k' t l := by
 obtain ⟨lo, hi, T1, h1, h2, h3⟩ := T
 exact ⟨lo, hi, T1.mod x fun c c1 c2 => hS c (h2 c c1 c2), Nat.le_trans h1 x.size, fun c c1 c2 => by rw [hk c (by omega)]; exact h2 c c1 c2, h3⟩
structure DbR (C : Nat → Prop) (g h h' : Heap) (q : Hp) (k : Nat → Nat) (st : Db) (m : Bx) : Prop where
 ext : Ext g h'
 size : h.size ≤ h'.size
 cell : ¬ C 1 → h'[q.d]? = some (.cells (dbC q st false) De (0, 0))
 box : ¬ C 2 → BV h' q.b q.Sb m
 log : ¬ C 3 → Cv h' q.lg q.b nl st.lseg st.lmade
 nts : ¬ C 4 → Cv h' q.nt q.b nn st.nseg false
 fresh : ¬ C 5 → M.Tab h' q.ft q.ns st.fr
 tabs : ¬ C 6 → Own PtE Aq h' q.tp q.ps
 names : ¬ C 7 → Own EZ BO h' q.np (nmS st)
 tab : ¬ C 8 → ∀ k', (∀ c, c < h.size → k' c = k c) → ∀ (i : Nat) (t : Nat) (p : Nat × List Pr), q.ps[i]? = some t → st.ts[i]? = some p → AHz h' k' t p.2
theorem DbH.rest {C : Nat → Prop} {g h h' : Heap} {q : Hp} {k : Nat → Nat} {st : Db} {m : Bx} (W : DbH g h q k st m) (x : Mod (fun c => C (k c)) h h') (h0 : ¬ C 0) : DbR C g h h' q k st m := by
 refine ⟨⟨Nat.le_trans W.ext.size x.size, fun c hc _ => ?_⟩, x.size, fun hC => x.blk W.cell (by rw [W.kd]; exact hC), fun hC => W.box.mod x fun c hc => by rw [W.kb c hc]; exact hC, fun hC => W.log.mod x (by rw [W.kl]; exact hC), fun hC => W.nts.mod x (by rw [W.kn]; exact hC),
  fun hC => W.fresh.mod x fun c hc => by rw [W.kf c hc]; exact hC, fun hC => W.tabs.mod x fun c hc => by rw [W.kt c hc]; exact hC, fun hC => W.names.mod x fun c hc => by rw [W.kx c hc]; exact hC,
  fun hC k' hk i t p h1 h2 => (W.tab i t p h1 h2).mod x (fun c hc => by rw [hc]; exact hC) hk⟩
 have hk : k c = 0 := Decidable.byContradiction fun h => by have := (W.own c h).1; omega
 exact (x.get c (Nat.lt_of_lt_of_le hc W.ext.size) (by rw [hk]; exact h0)).trans (W.ext.get c hc (fun h => h))
section
variable {g h h' : Heap} {q : Hp} {k : Nat → Nat} {st : Db} {m : Bx}
theorem DbH.dlt (W : DbH g h q k st m) : q.d < h.size := Am W.cell
theorem DbH.llt (W : DbH g h q k st m) : q.lg < h.size := Am W.log
theorem DbH.nlt (W : DbH g h q k st m) : q.nt < h.size := Am W.nts
theorem DbH.nSl (W : DbH g h q k st m) : ¬ q.Sb q.lg := fun hc => by have := W.kb _ hc; rw [W.kl] at this; cases this
theorem DbH.nSn (W : DbH g h q k st m) : ¬ q.Sb q.nt := fun hc => by have := W.kb _ hc; rw [W.kn] at this; cases this
theorem DbH.nSd (W : DbH g h q k st m) : ¬ q.Sb q.d := fun hc => by have := W.kb _ hc; rw [W.kd] at this; cases this
theorem DbH.dl (W : DbH g h q k st m) : q.d ≠ q.lg := fun e => by have := W.kd; rw [e, W.kl] at this; cases this
theorem DbH.dn (W : DbH g h q k st m) : q.d ≠ q.nt := fun e => by have := W.kd; rw [e, W.kn] at this; cases this
theorem DbH.on (W : DbH g h q k st m) (x : Ext h h') : DbH g h' q k st m := by
 have R := W.rest (C := fun _ => False) x (fun h => h)
 exact ⟨R.cell fun h => h, R.box fun h => h, R.log fun h => h, R.nts fun h => h, R.fresh fun h => h, R.tabs fun h => h, W.tlen, R.tab (fun h => h) k (fun _ _ => rfl), R.names fun h => h, W.kd, W.kb, W.kl, W.kn, W.kf, W.kt, W.kx,
  fun c hc => ⟨(W.own c hc).1, Nat.lt_of_lt_of_le (W.own c hc).2 x.size⟩, R.ext⟩
theorem DbH.beside {S : Nat → Prop} (W : DbH g h q k st m) (x : Mod S h h') (hS : ∀ c, S c → k c = 0 ∧ g.size ≤ c) : DbH g h' q k st m := by
 have hx : Ext g h' := ⟨Nat.le_trans W.ext.size x.size, fun c hc _ => (x.get c (Nat.lt_of_lt_of_le hc W.ext.size) fun h => by have := (hS c h).2; omega).trans (W.ext.get c hc (fun h => h))⟩
 have n : ∀ {c}, k c ≠ 0 → ¬ S c := fun hc hs => hc (hS _ hs).1
 exact ⟨x.blk W.cell (n (by rw [W.kd]; decide)), W.box.mod x fun c hc => n (by rw [W.kb c hc]; decide), W.log.mod x (n (by rw [W.kl]; decide)), W.nts.mod x (n (by rw [W.kn]; decide)), W.fresh.mod x fun c hc => n (by rw [W.kf c hc]; decide),
  W.tabs.mod x fun c hc => n (by rw [W.kt c hc]; decide), W.tlen, fun i t p h1 h2 => (W.tab i t p h1 h2).mod x (fun c hc => n (by rw [hc]; decide)) (fun _ _ => rfl), W.names.mod x fun c hc => n (by rw [W.kx c hc]; decide), W.kd, W.kb, W.kl, W.kn, W.kf, W.kt, W.kx,
  fun c hc => ⟨(W.own c hc).1, Nat.lt_of_lt_of_le (W.own c hc).2 x.size⟩, hx⟩
open Classical in
noncomputable def Hz (k : Nat → Nat) (n : Nat) (S : Nat → Prop) (j : Nat) : Nat → Nat := fun c => if c < n then k c else if S c then j else 0
theorem EH {n j c : Nat} {S : Nat → Prop} (hc : c < n) : Hz k n S j c = k c := by unfold Hz; rw [if_pos hc]
theorem XX {n j c : Nat} {S : Nat → Prop} (hc : n ≤ c) (hs : S c) : Hz k n S j c = j := by unfold Hz; rw [if_neg (by omega), if_pos hs]
theorem QG {n j c : Nat} {S : Nat → Prop} (hc : n ≤ c) (hs : ¬ S c) : Hz k n S j c = 0 := by unfold Hz; rw [if_neg (by omega), if_neg hs]
theorem DbH.boxed (W : DbH g h q k st m) {S' : Nat → Prop} {m' : Bx} {j : Nat} {st' : Db} (B : BV h' q.b S' m') (x : Mod (fun c => q.Sb c ∨ (j = 3 ∧ c = q.lg) ∨ (j = 4 ∧ c = q.nt)) h h') (s : ∀ c, S' c → q.Sb c ∨ h.size ≤ c)
  (e1 : st'.fr = st.fr) (e2 : st'.ts = st.ts) (e3 : st'.next = st.next) (e4 : st'.frm = st.frm)
  (l : (j ≠ 3 ∧ st'.lseg = st.lseg ∧ st'.lmade = st.lmade) ∨ Cv h' q.lg q.b nl st'.lseg st'.lmade) (n : (j ≠ 4 ∧ st'.nseg = st.nseg) ∨ Cv h' q.nt q.b nn st'.nseg false) :
  DbH g h' { q with Sb := S' } (Hz k h.size S' 2) st' m' := by
 have R := W.rest (C := fun c => c = 2 ∨ (j = 3 ∧ c = 3) ∨ (j = 4 ∧ c = 4)) (h' := h') (x.weak fun c _ hc => by
  rcases hc with hc | ⟨h1, rfl⟩ | ⟨h1, rfl⟩
  ·exact .inl (W.kb c hc)
  ·exact .inr (.inl ⟨h1, W.kl⟩)
  ·exact .inr (.inr ⟨h1, W.kn⟩)) (by rintro (h | ⟨_, h⟩ | ⟨_, h⟩) <;> cases h)
 have o : ∀ {c}, c < h.size → Hz k h.size S' 2 c = k c := fun hc => EH hc
 have ed : dbC { q with Sb := S' } st' false = dbC q st false := by simp only [dbC, e3, e4]
 refine ⟨by rw [ed]; exact R.cell (by omega), B, ?_, ?_, by rw [e1]; exact R.fresh (by omega), R.tabs (by omega), by rw [e2]; exact W.tlen, by rw [e2]; exact R.tab (by omega) _ (fun c hc => o hc), by rw [nmS, e2]; exact R.names (by omega),
  by rw [o W.dlt]; exact W.kd, fun c hc => ?_, by rw [o W.llt]; exact W.kl, by rw [o W.nlt]; exact W.kn, fun c hc => by rw [o (W.fresh.lt hc)]; exact W.kf c hc, fun c hc => by rw [o (Pj W.tabs hc)]; exact W.kt c hc,
  fun c hc => by rw [o (Pj W.names hc)]; exact W.kx c hc, fun c hc => ?_, R.ext⟩
 ·rcases l with ⟨h1, h2, h3⟩ | h1
  ·rw [h2, h3]; exact R.log (by omega)
  ·exact h1
 ·rcases n with ⟨h1, h2⟩ | h1
  ·rw [h2]; exact R.nts (by omega)
  ·exact h1
 ·by_cases hlt : c < h.size
  ·rw [o hlt]
   rcases s c hc with h1 | h1
   ·exact W.kb c h1
   ·omega
  ·exact XX (by omega) hc
 ·by_cases hlt : c < h.size
  ·rw [o hlt] at hc
   exact ⟨(W.own c hc).1, by have := R.size; omega⟩
  ·by_cases hs : S' c
   ·exact ⟨by have := W.ext.size; omega, B.lt hs⟩
   ·exact absurd (QG (by omega) hs) hc
theorem DbH.puts (W : DbH g h q k st m) {ns' : List M.CK} {l' : List Pr} (T : M.Tab h' q.ft ns' l') (x : Mod (M.inT q.ft q.ns) h h') (s : ∀ c, M.inT q.ft ns' c → M.inT q.ft q.ns c ∨ h.size ≤ c) :
  DbH g h' { q with ns := ns' } (Hz k h.size (M.inT q.ft ns') 5) { st with fr := l' } m := by
 have R := W.rest (C := fun c => c = 5) (h' := h') (x.weak fun c _ hc => W.kf c hc) (by decide)
 have o : ∀ {c}, c < h.size → Hz k h.size (M.inT q.ft ns') 5 c = k c := fun hc => EH hc
 refine ⟨R.cell (by decide), R.box (by decide), R.log (by decide), R.nts (by decide), T, R.tabs (by decide), W.tlen, R.tab (by decide) _ (fun c hc => o hc), R.names (by decide),
  by rw [o W.dlt]; exact W.kd, fun c hc => by rw [o (W.box.lt hc)]; exact W.kb c hc, by rw [o W.llt]; exact W.kl, by rw [o W.nlt]; exact W.kn, fun c hc => ?_, fun c hc => by rw [o (Pj W.tabs hc)]; exact W.kt c hc,
  fun c hc => by rw [o (Pj W.names hc)]; exact W.kx c hc, fun c hc => ?_, R.ext⟩
 ·by_cases hlt : c < h.size
  ·rw [o hlt]
   rcases s c hc with h1 | h1
   ·exact W.kf c h1
   ·omega
  ·exact XX (by omega) hc
 ·by_cases hlt : c < h.size
  ·rw [o hlt] at hc
   exact ⟨(W.own c hc).1, by have := R.size; omega⟩
  ·by_cases hs : M.inT q.ft ns' c
   ·exact ⟨by have := W.ext.size; omega, T.lt hs⟩
   ·exact absurd (QG (by omega) hs) hc
theorem DbH.renew (W : DbH g h q k st m) {ft' : Nat} (T : M.Tab h' ft' [] []) (hf : h.size ≤ ft') (hc : h'[q.d]? = some (.cells (dbC { q with ft := ft' } st false) De (0, 0))) (x : Mod (fun c => c = q.d) h h') :
  DbH g h' { q with ft := ft', ns := [] } (Hz k h.size (· = ft') 5) { st with fr := [] } m := by
 have R := W.rest (C := fun c => c = 1) (h' := h') (x.weak fun c _ hc => by rw [hc]; exact W.kd) (by decide)
 have o : ∀ {c}, c < h.size → Hz k h.size (· = ft') 5 c = k c := fun hc => EH hc
 have hi : ∀ c, M.inT ft' [] c → c = ft' := fun c hc => by
  rcases hc with rfl | ⟨x, hx, _⟩
  ·rfl
  ·cases hx
 refine ⟨hc, R.box (by decide), R.log (by decide), R.nts (by decide), T, R.tabs (by decide), W.tlen, R.tab (by decide) _ (fun c hc => o hc), R.names (by decide),
  by rw [o W.dlt]; exact W.kd, fun c hc => by rw [o (W.box.lt hc)]; exact W.kb c hc, by rw [o W.llt]; exact W.kl, by rw [o W.nlt]; exact W.kn, fun c hc => by rw [hi c hc]; exact XX hf rfl, fun c hc => by rw [o (Pj W.tabs hc)]; exact W.kt c hc,
  fun c hc => by rw [o (Pj W.names hc)]; exact W.kx c hc, fun c hc => ?_, R.ext⟩
 by_cases hlt : c < h.size
 ·rw [o hlt] at hc
  exact ⟨(W.own c hc).1, by have := R.size; omega⟩
 ·by_cases hs : c = ft'
  ·subst hs; exact ⟨by have := W.ext.size; omega, T.lt (.inl rfl)⟩
  ·exact absurd (QG (S := (· = ft')) (by omega) hs) hc
open Classical in
noncomputable def Ic (k : Nat → Nat) (n : Nat) (tp np : Sl) (S : Nat → Prop) : Nat → Nat := fun c => if k c ≠ 0 then k c else if tp.blk = some c then 6 else if np.blk = some c then 7 else if S c then 8 else 0
theorem DbH.retab (W : DbH g h q k st m) {tp np : Sl} {ps : List Nat} {ts : List (Nat × List Pr)} {next frm : Nat} {S : Nat → Prop}
  (hc : h'[q.d]? = some (.cells (dbC { q with tp := tp, np := np } { st with next := next, frm := frm } false) De (0, 0))) (x : Mod (fun c => c = q.d ∨ q.tp.blk = some c ∨ q.np.blk = some c) h h')
  (ot : Own PtE Aq h' tp ps) (on : Own EZ BO h' np (ts.map fun p => (p.1 : Int))) (hlen : ps.length = ts.length)
  (st1 : ∀ c, tp.blk = some c → q.tp.blk = some c ∨ (k c = 0 ∧ g.size ≤ c ∧ np.blk ≠ some c ∧ ¬ S c)) (sn1 : ∀ c, np.blk = some c → q.np.blk = some c ∨ (k c = 0 ∧ g.size ≤ c ∧ tp.blk ≠ some c ∧ ¬ S c)) (hS : ∀ c, S c → g.size ≤ c ∧ c < h'.size)
  (tab : ∀ (i : Nat) (t : Nat) (p : Nat × List Pr), ps[i]? = some t → ts[i]? = some p → (∃ j : Nat, q.ps[j]? = some t ∧ st.ts[j]? = some p) ∨ ∃ lo hi, TabAt h' t p.2 (JS p.2) lo hi ∧ hi ≤ h'.size ∧ (∀ c, lo ≤ c → c < hi → S c ∧ k c = 0) ∧ Eu p.2) :
  DbH g h' { q with tp := tp, np := np, ps := ps } (Ic k h.size tp np S) { st with ts := ts, next := next, frm := frm } m := by
 have R := W.rest (C := fun c => c = 1 ∨ c = 6 ∨ c = 7) (h' := h') (x.weak fun c _ hc => by
  rcases hc with rfl | hc | hc
  ·exact .inl W.kd
  ·exact .inr (.inl (W.kt c hc))
  ·exact .inr (.inr (W.kx c hc))) (by decide)
 have o : ∀ {c j}, k c = j → j ≠ 0 → Ic k h.size tp np S c = j := fun h1 h2 => by unfold Ic; rw [if_pos (by rw [h1]; exact h2)]; exact h1
 refine ⟨hc, R.box (by decide), R.log (by decide), R.nts (by decide), R.fresh (by decide), ot, hlen, fun i t p h1 h2 => ?_, on, o W.kd (by decide), fun c hc => o (W.kb c hc) (by decide), o W.kl (by decide), o W.kn (by decide), fun c hc => o (W.kf c hc) (by decide), fun c hc => ?_, fun c hc => ?_, fun c hc => ?_, R.ext⟩
 ·rcases tab i t p h1 h2 with ⟨j, h3, h4⟩ | ⟨lo, hi, T1, t1, t2, t3⟩
  ·obtain ⟨lo, hi, T1, t1, t2, t3⟩ := R.tab (by decide) k (fun _ _ => rfl) j t p h3 h4
   exact ⟨lo, hi, T1, t1, fun c c1 c2 => o (t2 c c1 c2) (by decide), t3⟩
  ·refine ⟨lo, hi, T1, t1, fun c c1 c2 => ?_, t3⟩
   obtain ⟨s1, s2⟩ := t2 c c1 c2
   have n6 : tp.blk ≠ some c := fun e => by
    rcases st1 c e with h | h
    ·have := W.kt c h; rw [s2] at this; cases this
    ·exact h.2.2.2 s1
   have n7 : np.blk ≠ some c := fun e => by
    rcases sn1 c e with h | h
    ·have := W.kx c h; rw [s2] at this; cases this
    ·exact h.2.2.2 s1
   unfold Ic
   rw [if_neg (by simp [s2]), if_neg n6, if_neg n7, if_pos s1]
 ·rcases st1 c hc with h1 | h1
  ·exact o (W.kt c h1) (by decide)
  ·unfold Ic; rw [if_neg (by simp [h1.1]), if_pos hc]
 ·rcases sn1 c hc with h1 | h1
  ·exact o (W.kx c h1) (by decide)
  ·unfold Ic; rw [if_neg (by simp [h1.1]), if_neg h1.2.2.1, if_pos hc]
 ·by_cases hk : k c = 0
  ·unfold Ic at hc
   rw [if_neg (by simp [hk])] at hc
   by_cases h6 : tp.blk = some c
   ·refine ⟨?_, Pj ot h6⟩
    rcases st1 c h6 with h1 | h1
    ·have := W.kt c h1; rw [hk] at this; cases this
    ·exact h1.2.1
   ·rw [if_neg h6] at hc
    by_cases h7 : np.blk = some c
    ·refine ⟨?_, Pj on h7⟩
     rcases sn1 c h7 with h1 | h1
     ·have := W.kx c h1; rw [hk] at this; cases this
     ·exact h1.2.1
    ·rw [if_neg h7] at hc
     by_cases hs : S c
     ·exact hS c hs
     ·rw [if_neg hs] at hc; exact absurd rfl hc
  ·exact ⟨(W.own c hk).1, by have := (W.own c hk).2; have := R.size; omega⟩
end
end Go.Lf.G

/-
 Contracts: a box that may give out: one operation; a log's segments dropped.
-/
set_option maxRecDepth 100000
set_option linter.unusedVariables false
set_option linter.unusedSimpArgs false
namespace Go.Lf.G
open Go
structure GQ (m m' : Bx) : Prop where
 up : m'.down = false
 calm : m.fuel = -1 → m'.fuel = -1
theorem GQ.refl {m : Bx} (h : m.down = false) : GQ m m := ⟨h, fun h => h⟩
theorem GQ.trans {m m1 m2 : Bx} (a : GQ m m1) (b : GQ m1 m2) : GQ m m2 := ⟨b.up, fun h => b.calm (a.calm h)⟩
theorem T9 {m : Bx} (hd : m.down = false) (l : List Fi) : GQ m { Ez m with files := l } := by
 refine ⟨(AGO l).trans hd, fun h => ?_⟩
 show (Ez m).fuel = -1
 unfold Ez; rw [if_neg (by rw [h]; decide)]; exact h
theorem NY {m : Bx} {k d : ByteArray} (hd : m.down = false) (hk : IV k = false) : (m.fuel = 0 ∧ CX m k d = (30, Ii m)) ∨ ((CX m k d).1 = 0 ∧ GQ m (CX m k d).2 ∧
  ∀ x, ff (CX m k d).2 x = if x = k then some (((ff m k).getD (bs0, bs0)).1, ((ff m k).getD (bs0, bs0)).2 ++ d) else ff m x) := by
 by_cases hf : m.fuel = 0
 ·left
  refine ⟨hf, ?_⟩
  unfold CX
  rw [if_neg (by simp [hd]), if_neg (by simp [hk]), if_pos hf]
 ·right
  obtain ⟨h1, h2⟩ := AAF ⟨hd, hf⟩ (d := d) hk
  refine ⟨h1, ?_, h2⟩
  unfold CX
  rw [if_neg (by simp [hd]), if_neg (by simp [hk]), if_neg hf]
  exact T9 hd _
theorem Ko {m : Bx} {k : ByteArray} {p : ByteArray × ByteArray} (hd : m.down = false) (hk : ff m k = some p) : (m.fuel = 0 ∧ EO m k = (30, Ii m)) ∨ ((EO m k).1 = 0 ∧ GQ m (EO m k).2 ∧ ∀ x, ff (EO m k).2 x = if x = k then some (p.1 ++ p.2, bs0) else ff m x) := by
 have hn : (BP k m.files).isNone = false := by
  cases hf : BP k m.files with
  | none => unfold ff at hk; rw [hf] at hk; cases hk
  | some f => rfl
 by_cases hf : m.fuel = 0
 ·left
  refine ⟨hf, ?_⟩
  unfold EO
  rw [if_neg (by simp [hd]), if_neg (by simp [hn]), if_pos hf]
 ·right
  obtain ⟨h1, h2⟩ := AFV ⟨hd, hf⟩ hk
  refine ⟨h1, ?_, h2⟩
  unfold EO
  rw [if_neg (by simp [hd]), if_neg (by simp [hn]), if_neg hf]
  exact T9 hd _
theorem NL {m : Bx} {k : ByteArray} (hd : m.down = false) (hk : (ff m k).isSome = true) : (m.fuel = 0 ∧ En m k = (30, Ii m)) ∨ ((En m k).1 = 0 ∧ GQ m (En m k).2 ∧ ∀ x, ff (En m k).2 x = if x = k then none else ff m x) := by
 have hn : (BP k m.files).isNone = false := by
  rw [← Pw] at hk
  cases hf : BP k m.files with
  | none => rw [hf] at hk; cases hk
  | some f => rfl
 by_cases hf : m.fuel = 0
 ·left
  refine ⟨hf, ?_⟩
  unfold En
  rw [if_neg (by simp [hd]), if_neg (by simp [hn]), if_pos hf]
 ·right
  obtain ⟨h1, h2⟩ := AGK ⟨hd, hf⟩ hk
  refine ⟨h1, ?_, h2⟩
  unfold En
  rw [if_neg (by simp [hd]), if_neg (by simp [hn]), if_neg hf]
  exact T9 hd _
theorem ABX (m : Bx) (x : ByteArray) : ff (Ii m) x = ff m x := rfl
theorem ADx (m : Bx) : wtF (Ii m).files = wtF m.files := rfl
theorem Zq {A : Amb} {h : Heap} {lg b seg : Nat} {nm : ByteArray} {made : Bool} {S : Nat → Prop} {m : Bx} {upto : Int} {R : Value → Heap → Prop} (E : Evn h) (hE : ∀ h', Mod S h h' → Evn h') (L : Cv h lg b nm seg made) (B : BV h b S m) (hd : m.down = false) (hS : ¬ S lg) (hnm : nm.size ≤ 8) (hw : wtF m.files ≤ 8000000000000)
  (H0 : upto ≥ (seg : Int) → R (.int .i64 1) h)
  (H2 : m.fuel ≠ -1 → ∀ h' S' m', BV h' b S' m' → m'.down = true → Mod S h h' → (∀ c, S' c → S c) → wtF m'.files ≤ wtF m.files → (∀ x, ff m' x = ff m x ∨ (ff m' x = none ∧ ∃ n : Nat, 1 ≤ n ∧ n ≤ 99999999 ∧ (n : Int) ≤ upto ∧ x = fnB nm n)) → R (.int .i64 30) h')
  (H1 : upto < (seg : Int) → ∀ h' S' m', BV h' b S' m' → GQ m m' → Mod S h h' → (∀ c, S' c → S c) → wtF m'.files ≤ wtF m.files → (∀ n : Nat, 1 ≤ n → n ≤ 99999999 → (n : Int) ≤ upto → ff m' (fnB nm n) = none) →
   (∀ x, (∀ n : Nat, 1 ≤ n → n ≤ 99999999 → (n : Int) ≤ upto → x ≠ fnB nm n) → ff m' x = ff m x) → R (.int .i64 0) h') : AA A P Ew #[BC lg, .int .i64 upto] h R := by
 refine VK ?_
 unfold KU
 refine Join.mk fun K hK => PIf.no rfl (atI (AZ.mk (AB L rfl) (hK _ _ ?_)))
 refine PIf.intro (fun q => H0 (by simpa using q)) (fun q => ?_)
 have hup : upto < (seg : Int) := by simpa using q
 refine atI (AU.mk (AJ L rfl) (atI (AC.mk (AB L rfl) ?_)))
 refine VE E B hd (by omega) hw fun h2 s2 l SL v2 x2 f2 => ⟨s2, _, rfl, PIf.no rfl ?_⟩
 have hlen : (l.map fun n : Nat => (n : Int)).length = l.length := List.length_map ..
 have hr : ∀ n ∈ l, 1 ≤ n ∧ n ≤ 99999999 ∧ (ff m (fnB nm n)).isSome = true := fun n hn => by
  have := (SL.mem n).1 hn
  rw [Pw] at this
  exact this
 have hnd : l.Nodup := List.nodup_iff_pairwise_ne.2 (SL.inc.imp fun h => Nat.ne_of_lt h)
 have hl9 := AIg SL
 refine Loop.rule (fun mm x hh => ∃ (i : Nat) (Si : Nat → Prop) (mi : Bx), x = ((i : Int), ()) ∧ BV hh b Si mi ∧ GQ m mi ∧ Mod S h hh ∧ Mod S h2 hh ∧ (∀ c, Si c → S c) ∧ wtF mi.files ≤ wtF m.files ∧ (∀ n ∈ l.take i, (n : Int) ≤ upto → ff mi (fnB nm n) = none) ∧ (∀ x, (∀ n ∈ l.take i, (n : Int) ≤ upto → x ≠ fnB nm n) → ff mi x = ff m x) ∧ i ≤ l.length ∧ mm = l.length - i) ?_
  ⟨0, S, m, rfl, B.ext x2, GQ.refl hd, Ext.mod x2, Mod.refl, fun _ h => h, Nat.le_refl _, by simp, fun _ _ => rfl, Nat.zero_le _, rfl⟩
 rintro K1 mm _ hh ⟨i, Si, mi, rfl, Bi, ci, md, md2, hSi, hwi, hi1, hi2, hi, rfl⟩ hK1
 have vh : View EZ hh s2 (l.map fun n : Nat => (n : Int)) := v2.mod md2 fun c hc hs => by have := f2 c hc; have := B.lt hs; omega
 rw [v2.len, hlen]
 refine PIf.intro (fun hq => ?_) (fun hq => ?_)
 ·have hil : i < l.length := by simpa using hq
  have hget : l[i]? = some l[i] := List.getElem?_eq_getElem hil
  obtain ⟨n1, n9, hff⟩ := hr l[i] (List.getElem_mem hil)
  have htk : l.take (i + 1) = l.take i ++ [l[i]] := by rw [List.take_add_one, hget]; rfl
  have hni : ∀ n ∈ l.take i, n < l[i] := fun n hn => by
   have := SL.inc
   rw [← List.take_append_drop (i + 1) l, htk] at this
   have h3 := (List.pairwise_append.1 (List.pairwise_append.1 this).1).2.2 n hn l[i] (by simp)
   exact h3
  refine Join.mk fun K2 hK2 => ?_
  have fin : ∀ S' m' h', BV h' b S' m' → GQ m m' → Mod S h h' → Mod S h2 h' → (∀ c, S' c → S c) → wtF m'.files ≤ wtF m.files → (∀ n ∈ l.take (i + 1), (n : Int) ≤ upto → ff m' (fnB nm n) = none) → (∀ x, (∀ n ∈ l.take (i + 1), (n : Int) ≤ upto → x ≠ fnB nm n) → ff m' x = ff m x) → K2 () h' := fun S' m' h' B' c' md' md2' hS' hw' f1 f2 => by
   refine hK2 _ _ ?_
   dsimp only
   rw [AR (by omega)]
   exact hK1 (l.length - (i + 1)) _ _ (by omega) ⟨i + 1, S', m', rfl, B', c', md', md2', hS', hw', f1, f2, hil, rfl⟩
  rw [← hlen, ← v2.len]
  refine vh.idx (i := i) (x := (l[i] : Int)) (by rw [List.getElem?_map, hget]; rfl) fun a _ c => ?_
  refine AZ.mk c.int ?_
  refine PIf.intro (fun q => ?_) (fun q => ?_)
  ·have q : (l[i] : Int) ≤ upto := by simpa using q
   have Lh : Cv hh lg b nm seg made := L.mod md hS
   refine atI (AU.mk (AJ Lh rfl) (atI (AC.mk (AB Lh rfl) ?_)))
   refine Ry (hE hh md) (by omega) (by omega) fun h5 x5 => ⟨_, rfl, ⟨AJ (Lh.ext x5) rfl, ?_⟩⟩
   refine RY (Bi.ext x5) fun h6 S6 B6 m6 s6 => ⟨_, rfl, ?_⟩
   have hsome : (ff mi (fnB nm l[i])).isSome = true := by
    rw [hi2 (fnB nm l[i]) fun n hn _ e => by have := hni n hn; have := F5 e; omega]
    exact hff
   have md6 := (Ext.mod x5).trans (m6.weak fun c _ hc => hSi c hc)
   rcases NL (k := fnB nm l[i]) ci.up hsome with ⟨df, de⟩ | ⟨d1, ds, d2⟩
   ·rw [de] at B6 ⊢
    refine PIf.yes rfl (H2 (fun h => by have := ci.calm h; rw [df] at this; cases this) h6 S6 _ B6 rfl (md.trans md6) (fun c hc => hSi c (s6 c hc)) hwi fun x => ?_)
    show ff mi x = _ ∨ (ff mi x = _ ∧ _)
    by_cases hx : ∃ n, n ∈ l.take i ∧ (n : Int) ≤ upto ∧ x = fnB nm n
    ·obtain ⟨n, hn, hnu, rfl⟩ := hx
     have hr' := hr n (List.mem_of_mem_take hn)
     exact .inr ⟨hi1 n hn hnu, n, hr'.1, hr'.2.1, hnu, rfl⟩
    ·exact .inl (hi2 x fun n hn hnu e => hx ⟨n, hn, hnu, e⟩)
   rw [d1]
   refine PIf.no rfl (fin S6 _ h6 B6 (ci.trans ds) (md.trans md6) (md2.trans md6) (fun c hc => hSi c (s6 c hc)) (Nat.le_trans (UF _) hwi) ?_ ?_)
   ·intro n hn hnu
    rw [d2]
    split
    ·rfl
    ·rename_i hne
     rw [htk] at hn
     rcases List.mem_append.1 hn with hn | hn
     ·exact hi1 n hn hnu
     ·exact absurd (by rw [List.mem_singleton.1 hn]) hne
   ·intro x hx
    rw [d2, if_neg (hx l[i] (by rw [htk]; exact List.mem_append.2 (.inr (List.mem_singleton.2 rfl))) q)]
    exact hi2 x fun n hn => hx n (by rw [htk]; exact List.mem_append.2 (.inl hn))
  ·have q : ¬ (l[i] : Int) ≤ upto := by simpa using q
   refine fin Si mi hh Bi ci md md2 hSi hwi ?_ ?_
   ·intro n hn hnu
    rw [htk] at hn
    rcases List.mem_append.1 hn with hn | hn
    ·exact hi1 n hn hnu
    ·rw [List.mem_singleton.1 hn] at hnu; exact absurd hnu q
   ·intro x hx
    exact hi2 x fun n hn => hx n (by rw [htk]; exact List.mem_append.2 (.inl hn))
 ·have hil : i = l.length := by simp at hq; omega
  subst hil
  rw [List.take_length] at hi1 hi2
  refine H1 hup hh Si mi Bi ci md hSi hwi ?_ ?_
  ·intro n n1 n9 hnu
   by_cases hn : n ∈ l
   ·exact hi1 n hn hnu
   ·rw [hi2 (fnB nm n) fun k hk _ e => hn (by rw [F5 e]; exact hk)]
    have : ¬ ((ff m (fnB nm n)).isSome = true) := fun h => hn ((SL.mem n).2 ⟨n1, n9, by rw [Pw]; exact h⟩)
    cases hf : ff m (fnB nm n) with
    | none => rfl
    | some p => rw [hf] at this; exact absurd rfl this
  ·intro x hx
   exact hi2 x fun n hn hnu => hx n (hr n hn).1 (hr n hn).2.1 hnu
end Go.Lf.G

/-
 Contracts: a table's file laid; a note written (chapter 9).
-/
set_option maxRecDepth 100000
set_option linter.unusedVariables false
set_option linter.unusedSimpArgs false
namespace Go.Lf.G
open Go
theorem AJz {n : Nat} (h : n ≤ 99999999) : IV (tfN n) = false := by
 have h1 : (tfN n).size = 1 + (Lib.decDigits n).length := by
  have := Bz (tfN n)
  rw [RX] at this
  rw [← this]; simp; omega
 have h2 : (Lib.decDigits n).length ≤ 20 := by rw [Lib.decDigits_length]; exact Lib.nDigits_le20 n (by omega)
 unfold IV
 rw [Bool.or_eq_false_iff, decide_eq_false_iff_not, decide_eq_false_iff_not]
 refine ⟨fun h => ?_, by omega⟩
 rw [h] at h1
 have : bs0.size = 0 := rfl
 omega
theorem MI {A : Amb} {h : Heap} {n : Nat} {R : Value → Heap → Prop} (E : Evn h) (hn : n ≤ 1099511627776) (H : ∀ h', Ext h h' → R (.string (tfN n)) h') : AA A P FI #[.int .i64 n] h R := by
 refine ADU ?_
 unfold Qn
 refine AFl E.tab (by omega) (by omega) fun h1 x1 => ⟨_, rfl, ?_⟩
 have e1 : Lib.itoa (n : Int) = Lib.decDigits n := Lib.itoa_nonneg n
 rw [e1]
 have h2 : (Lib.decDigits n).length ≤ 20 := by rw [Lib.decDigits_length]; exact Lib.nDigits_le20 n (by omega)
 have hl : (⟨(Lib.decDigits n).toArray⟩ : ByteArray).size = (Lib.decDigits n).length := by simp [ByteArray.size]
 refine ⟨?_, ?_⟩
 ·rw [hl, max_i64]
  have : (⟨#[116]⟩ : ByteArray).size = 1 := rfl
  omega
 ·exact H h1 x1
def PD (h : Heap) (d : Nat) : Prop := ∃ c0 c1 c2 c3 c4 c5 c6 c7, h[d]? = some (.cells #[c0, c1, c2, c3, c4, c5, c6, c7, .bool true] De (0, 0))
theorem PD.mod {S : Nat → Prop} {h h' : Heap} {d : Nat} (D : PD h d) (x : Mod S h h') (hS : ¬ S d) : PD h' d := by
 obtain ⟨c0, c1, c2, c3, c4, c5, c6, c7, hd⟩ := D
 exact ⟨c0, c1, c2, c3, c4, c5, c6, c7, x.blk hd hS⟩
theorem AJc {A : Amb} {h : Heap} {q : Hp} {st : Db} {R : Value → Heap → Prop} (hd : h[q.d]? = some (.cells (dbC q st false) De (0, 0))) (H : ∀ h', PD h' q.d → Mod (· = q.d) h h' → h'.size = h.size → R (.int .i64 30) h') : AA A P Bb #[BC q.d, .int .i64 30] h R := by
 refine WW ?_
 unfold LZ
 refine Join.mk fun K hK => PIf.yes rfl (atI (Store.mk1 hd (by simp) fun h1 hb1 m1 hs1 => hK _ _ (H h1 ?_ m1 hs1)))
 exact ⟨_, _, _, _, _, _, _, _, by simpa using hb1⟩
section
variable {A : Amb} {g h : Heap} {q : Hp} {k : Nat → Nat} {st : Db} {m : Bx} {R : Value → Heap → Prop}
theorem DbH.evn (W : DbH g h q k st m) (E : Evn g) : Evn h := E.ext W.ext
def Grow (k k' : Nat → Nat) (n : Nat) : Prop := ∀ c, c < n → k' c = k c
theorem Grow.refl {k : Nat → Nat} {n : Nat} : Grow k k n := fun _ _ => rfl
theorem Grow.trans {k k1 k2 : Nat → Nat} {n n1 : Nat} (a : Grow k k1 n) (b : Grow k1 k2 n1) (h : n ≤ n1) : Grow k k2 n := fun c hc => (b c (by omega)).trans (a c hc)
theorem YT {k : Nat → Nat} {n j : Nat} {S : Nat → Prop} : Grow k (Hz k n S j) n := fun c hc => EH hc
theorem AJw (W : DbH g h q k st m) (hn : st.next ≤ 99999999) (hf : st.frm ≤ 99999999) (hc : st.ts.length ≤ 60000) (hb : ∀ p ∈ st.ts, p.1 ≤ 99999999) (H : ∀ h', Ext h h' → R (.string (Aa (Ck ⟨st.next, st.frm, st.ts.map (·.1)⟩))) h') : AA A P JJ #[BC q.d] h R := by
 refine XQ ?_
 unfold Le
 refine atI (AZ.mk (AB W.cell rfl) ?_)
 rw [DD (by omega)]
 refine F9 (by omega) fun h1 x1 => ⟨_, rfl, ?_⟩
 have c1 := Ab x1 W.cell
 refine atI (AZ.mk (AB c1 rfl) ⟨AB W.cell rfl, ?_⟩)
 rw [DD (by omega)]
 refine F9 (by omega) fun h2 x2 => ⟨_, rfl, ?_⟩
 have c2 := Ab x2 c1
 have l1 := Ai (n := st.next) (by omega)
 have l2 := Ai (n := st.frm) (by omega)
 have hnl : q.np.len = st.ts.length := by rw [W.names.len]; simp
 refine ⟨by rw [AV, AV, max_i64]; omega, ?_⟩
 refine atI (AQ.mk (s := q.np) (AB c2 rfl) ⟨AB c1 rfl, AB W.cell rfl, ?_⟩)
 rw [hnl, DD (by omega), CQ]
 refine F9 (by omega) fun h3 x3 => ⟨_, rfl, ?_⟩
 have c3 := Ab x3 c2
 have l3 := Ai (n := st.ts.length) (by omega)
 refine ⟨by rw [AV, AV, List.length_append, max_i64]; omega, ?_⟩
 refine atI (AQ.mk (s := q.np) (AB c3 rfl) ?_)
 rw [CQ]
 have x03 := (x1.trans x2).trans x3
 have v3 := (W.names.ext x03).view
 have hle : ∀ i, ((st.ts.map (·.1)).take i).flatMap CG = ((st.ts.map (·.1)).take i).flatMap CG := fun _ => rfl
 refine Loop.rule (fun mm x hh => ∃ i : Nat, x = (Aa (CG st.next ++ CG st.frm ++ CG st.ts.length ++ ((st.ts.map (·.1)).take i).flatMap CG), (i : Int), ()) ∧ mm = st.ts.length - i ∧ i ≤ st.ts.length ∧ Ext h3 hh) ?_ ⟨0, by simp, rfl, by omega, Mod.refl⟩
 rintro K mm _ hh ⟨i, rfl, rfl, hi, xx⟩ hK
 dsimp only
 refine PIf.intro (fun hq => ?_) (fun hq => ?_)
 ·have hil : i < st.ts.length := by rw [← hnl]; simpa using hq
  have hget : st.ts[i]? = some st.ts[i] := List.getElem?_eq_getElem hil
  have hbi := hb st.ts[i] (List.getElem_mem hil)
  refine (v3.ext xx).idx (i := i) (x := (st.ts[i].1 : Int)) (by rw [nmS, List.getElem?_map, hget]; rfl) fun a _ c => AZ.mk c.int ?_
  rw [DD (by omega)]
  refine F9 (by omega) fun h5 x5 => ⟨_, rfl, ?_⟩
  have l5 := Ai (n := st.ts[i].1) (by omega)
  have l6 := QF (l := (st.ts.map (·.1)).take i) fun n hn => by
   obtain ⟨p, hp, rfl⟩ := List.mem_map.1 (List.mem_of_mem_take hn)
   exact hb p hp
  have l7 : ((st.ts.map (·.1)).take i).length ≤ 60000 := by simp; omega
  refine ⟨by rw [AV, AV, max_i64]; simp only [List.length_append]; omega, ?_⟩
  rw [CQ, AR (by omega)]
  refine hK (st.ts.length - (i + 1)) _ _ (by omega) ⟨i + 1, ?_, rfl, hil, xx.trans x5⟩
  rw [List.take_add_one, List.getElem?_map, hget]
  simp
 ·have hil : i = st.ts.length := by rw [hnl] at hq; simp at hq; omega
  subst hil
  have := H hh (x03.trans xx)
  rw [List.take_of_length_le (by simp)]
  simpa [Ck] using this
theorem AIv {n : Nat} {s : Sl} {l : List Pr} (E : Evn g) (W : DbH g h q k st m) (hd : m.down = false) (T : Eu l) (hv : View Af h s l) (hs : ∀ c, s.blk = some c → c < h.size) (hn : n ≤ 99999999) (hf : ff m (tfN n) = none) (hw : wtF m.files + (Gs l).length + 1 ≤ 8796093022208)
  (H0 : m.fuel ≠ -1 → ∀ h' S' m', BV h' q.b S' m' → m'.down = true → Mod q.Sb h h' → (∀ c, S' c → q.Sb c ∨ h.size ≤ c) → (∀ x, x ≠ tfN n → ff m' x = ff m x) → wtF m'.files ≤ wtF m.files + (Gs l).length + 1 → R (.tuple #[.pointer none, .int .i64 30]) h')
  (H1 : ∀ h' S' k' m' t lo hi, DbH g h' { q with Sb := S' } k' st m' → GQ m m' → (∀ x, ff m' x = if x = tfN n then some (Aa (Gs l), bs0) else ff m x) → wtF m'.files ≤ wtF m.files + (Gs l).length + 1 → TabAt h' t l (JS l) lo hi → h.size ≤ lo → hi ≤ h'.size → (∀ c, lo ≤ c → k' c = 0) →
   Mod q.Sb h h' → Grow k k' h.size → R (.tuple #[BC t, .int .i64 0]) h') : AA A P IZ #[BC q.d, .int .i64 (n : Int), .slice s.p s.len s.cap] h R := by
 refine Ym ?_
 unfold Nl
 refine AHS T hv hs fun h1 x1 => ⟨_, _, rfl, PIf.no rfl ?_⟩
 have W1 := W.on x1
 refine atI (AU.mk (AJ W1.cell rfl) ?_)
 refine MI (W1.evn E) (by omega) fun h2 x2 => ⟨_, rfl, ⟨AJ (W1.on x2).cell rfl, ?_⟩⟩
 have W2 := W1.on x2
 have x02 := x1.trans x2
 have sz2 := x02.size
 refine XH W2.box (by rw [AV]; exact hw) fun h3 S3 B3 m3 s3 => ⟨_, rfl, ?_⟩
 have wt3 := P7 W.box.good (tfN n) (Aa (Gs l))
 rw [AV] at wt3
 have mod3 : Mod q.Sb h h3 := (Ext.mod x02).trans m3
 have sub3 : ∀ c, S3 c → q.Sb c ∨ h.size ≤ c := fun c hc => (s3 c hc).imp id fun h => by omega
 rcases NY (k := tfN n) (d := Aa (Gs l)) hd (AJz hn) with ⟨hf0, e3⟩ | ⟨e3, st3, f3⟩
 ·rw [e3] at B3 ⊢
  refine PIf.yes rfl ?_
  exact H0 (by rw [hf0]; decide) h3 S3 _ B3 rfl mod3 sub3 (fun x _ => rfl) (by rw [ADx, Nat.add_assoc]; exact Nat.le_add_right _ _)
 rw [e3]
 refine PIf.no rfl ?_
 have W3 := W2.boxed (j := 2) (st' := st) B3 (m3.weak fun c _ hc => .inl hc) s3 rfl rfl rfl rfl (.inl ⟨by decide, rfl, rfl⟩) (.inl ⟨by decide, rfl⟩)
 generalize (CX m (tfN n) (Aa (Gs l))).2 = m3' at *
 have g3 : Grow k (Hz k h2.size S3 2) h2.size := YT
 refine atI (AU.mk (AJ W3.cell rfl) ?_)
 refine MI (W3.evn E) (by omega) fun h4 x4 => ⟨_, rfl, ⟨AJ (W3.on x4).cell rfl, ?_⟩⟩
 have W4 := W3.on x4
 rw [hf] at f3
 have f3t : ff m3' (tfN n) = some (bs0, bs0 ++ Aa (Gs l)) := by rw [f3, if_pos rfl]; rfl
 refine AC1 W4.box fun h5 B5 m5 => ⟨_, rfl, ?_⟩
 have wt5 := Sk W3.box.good (tfN n)
 have mod5 : Mod q.Sb h h5 := by
  refine mod3.then ((Ext.mod x4).trans m5 |>.weak fun c _ hc => ?_)
  exact (sub3 c hc)
 rcases Ko st3.up f3t with ⟨hf0, e5⟩ | ⟨e5, st5, f5⟩
 ·rw [e5] at B5 ⊢
  refine PIf.yes rfl ?_
  exact H0 (fun hh => by have := st3.calm hh; rw [hf0] at this; cases this) h5 S3 _ B5 rfl mod5 sub3 (fun x hx => by
   rw [ABX, f3, if_neg hx]) wt3
 rw [e5]
 refine PIf.no rfl ?_
 have W5 := W4.boxed (j := 2) (st' := st) B5 (m5.weak fun c _ hc => .inl hc) (fun c hc => .inl hc) rfl rfl rfl rfl (.inl ⟨by decide, rfl, rfl⟩) (.inl ⟨by decide, rfl⟩)
 generalize (EO m3' (tfN n)).2 = m5' at *
 refine atI (AU.mk (AJ W5.cell rfl) ?_)
 refine MI (W5.evn E) (by omega) fun h6 x6 => ⟨_, rfl, ⟨AJ (W5.on x6).cell rfl, ?_⟩⟩
 have W6 := W5.on x6
 refine Xb W6.box ⟨_, _, rfl, ?_⟩
 have f5t : ff m5' (tfN n) = some (Aa (Gs l), bs0) := by rw [f5, if_pos rfl, Nb, Nb]
 rw [ABi st5.up, f5t]
 dsimp only
 rw [NT]
 refine PIf.no rfl ?_
 refine ADj T.tabS fun h7 t x7 T7 => ⟨_, _, rfl, ?_⟩
 have sz4 := x4.size
 have sz3 := m3.size
 have sz5 := m5.size
 have sz6 := x6.size
 have k5 : ∀ c, h6.size ≤ c → Hz (Hz k h2.size S3 2) h4.size S3 2 c = 0 := fun c hc => by
  have : ¬ S3 c := fun hs => by have := B5.lt hs; omega
  exact QG (by omega) this
 refine H1 h7 S3 _ m5' t h6.size h7.size (W6.on x7) (st3.trans st5) (fun x => ?_) (Nat.le_trans wt5 wt3) T7 (by omega) (Nat.le_refl _) (fun c hc => k5 c hc) ?_ ?_
 ·rw [f5]
  by_cases hx : x = tfN n
  ·rw [if_pos hx, if_pos hx, Nb, Nb]
  ·rw [if_neg hx, if_neg hx, f3, if_neg hx]
 ·exact (mod5.trans (Ext.mod x6)).trans (Ext.mod x7)
 ·exact fun c hc => by
   rw [EH (by omega), EH (by omega)]
end
end Go.Lf.G

