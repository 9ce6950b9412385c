/-
 The law CasScans (chapter 10) over its formula.
-/
import Derived.Test.YtdmlhpjdmgaggaaGreatDoorLfGLCasScans
import Derived.Test.YtdmlhpjdmgaggaaGreatDoorLfQ11
import Derived.Test.YtdmlhpjdmgaggaaGreatDoorLfU11
set_option linter.unusedVariables false
set_option linter.unusedSimpArgs false
set_option maxRecDepth 100000
set_option linter.unusedVariables false
set_option linter.unusedSimpArgs false
namespace Go.Lf.G
open Go
open M (Sorted Ah Df BL Al BF CZ Au OkL Bo atK Br)
def AK1 (x : Pr) : List Fv := [.s x.key, .s x.val, .b x.gone]
theorem ALV : P.underlying AO = some (.struct (P.fieldsOf AO)) := by kernel_rfl
theorem AKg (x : Pr) : eqB P AO (AK1 x) = true := by kernel_rfl
theorem AAQ {s p : ByteArray} : MP p s = (decide (p.size ≤ s.size) && sEq (s.extract 0 p.size) p) := by
 have hs : s.data.toList.length = s.size := by rw [Array.length_toList]; rfl
 have hp : p.data.toList.length = p.size := by rw [Array.length_toList]; rfl
 rw [Bool.eq_iff_iff, ADQ, Bool.and_eq_true, decide_eq_true_iff, BR, decide_eq_true_iff, List.prefix_iff_eq_take, hp]
 constructor
 ·intro h
  have hl := congrArg List.length h
  rw [List.length_take, hp, hs] at hl
  refine ⟨by omega, ?_⟩
  apply ByteArray.ext
  apply Array.ext'
  rw [ByteArray.data_extract, Array.toList_extract]
  simp
  rw [← h]
 ·rintro ⟨_, h⟩
  have := congrArg (fun b : ByteArray => b.data.toList) h
  simp only [ByteArray.data_extract, Array.toList_extract] at this
  rw [← this]; simp
theorem AJo (k : ByteArray) : sLt k (⟨#[]⟩ : ByteArray) = false := by
 rw [R8]; simp
theorem AEt {m : List Pr} {p : ByteArray} {most : Nat} (h : m.length ≤ most) : AGz m p ⟨#[]⟩ (most : Int) = m.filter fun x => MP p x.key := by
 unfold AGz
 rw [List.filter_congr (q := fun x => MP p x.key) fun x _ => by rw [AJo]; simp]
 have := List.length_filter_le (fun x => MP p x.key) m
 rw [List.take_of_length_le (by omega)]
theorem Px {f : Pr → Bool} {m : List Pr} {i : Nat} {x : Pr} (hx : m[i]? = some x) (hf : f x = true) : (m.filter f)[((m.take i).filter f).length]? = some x := by
 obtain ⟨hi, rfl⟩ := List.getElem?_eq_some_iff.1 hx
 have e : m = m.take i ++ m[i] :: m.drop (i + 1) := by rw [← List.drop_eq_getElem_cons hi, List.take_append_drop]
 have e2 : m.filter f = (m.take i).filter f ++ m[i] :: (m.drop (i + 1)).filter f := by
  generalize m[i] = y at *
  conv => lhs; rw [e]
  rw [List.filter_append, List.filter_cons, if_pos hf]
 rw [e2, List.getElem?_append_right (Nat.le_refl _), Nat.sub_self]
 rfl
theorem ABP {A : Amb} {B : Bud} {g h : Heap} {s : Nat} {q : Hp} {k : Nat → Nat} {st : Db} {m : Bx} {D : BK} {age c n : Nat} {R : Value → Heap → Prop} {conds sl : Sl} {cl l : List Pr} (E : Evn g) (C : Ej B g h s q k st m D age c n) (hA : age + 3 ≤ B.A) (hC : c + 64 ≤ B.C) (hn : n + 1 ≤ 1000000) (vc : View Af h conds cl) (v : View Af h sl l) (hs : l ≠ [] → ∀ b, sl.blk = some b → b < h.size ∧ k b = 0) (hk : ∀ x ∈ cl, x.key.size ≤ 1099511627776)
  (H : ∀ h' q' k' st' m' D' n', Ej B g h' s q' k' st' m' D' (age + 3) (c + 64) n' → n' ≤ n + 1 → q'.b = q.b → BH st' = doM (BH st) cl l → Mod (fun c => k c ≠ 0 ∨ h.size ≤ c ∨ c = s) h h' → (∀ c, k' c ≠ 0 → k c ≠ 0 ∨ h.size ≤ c) → R (.int .i64 (doC (BH st) cl l)) h') :
  AA A P BN #[BC s, .slice conds.p conds.len conds.cap, .slice sl.p sl.len sl.cap] h R :=
 WM (B := B) E C hA hC hn vc v hs hk (fun hne h' x => H h' q k st m D n ((C.on x).put (by omega) (by omega) hC) (by omega) rfl (by rw [show doM (BH st) cl l = BH st from if_neg hne]) (x.weak fun c _ hc => hc.elim) fun c hc => .inl hc)
  fun hz h' q' k' st' m' D' _ eb C' mp md kk => by
   have := H h' q' k' st' m' D' (n + 1) C' (Nat.le_refl _) eb (by rw [mp, show doM (BH st) cl l = wrL (BH st) l from if_pos hz]) md kk
   rwa [hz] at this
theorem ADt {A : Amb} {h : Heap} {batch : Sl} {l : List Pr} {p : ByteArray} {R : Value → Heap → Prop} (E : Evn h) (v : View Af h batch l) (hp : p.size ≤ 1048576) (H : ∀ h', Ext h h' → R (.bool true) h') : AA A P FL #[.slice batch.p batch.len batch.cap, .string p] h R := by
 refine Mm ?_
 unfold FD
 refine NF E fun h1 x1 => ⟨_, rfl, PIf.no rfl ?_⟩
 refine Pz fun b h2 Sb B2 x2 f2 => ⟨_, rfl, ?_⟩
 have x02 := x1.trans x2
 have sz1 := x1.size
 refine ML (B := MH) E B2 x02 (fun c hc => by have := f2 c hc; omega) rfl rfl (fun n => rfl) (fun n => rfl) (fun x hx => absurd rfl hx) (by decide) (by decide) fun h3 s q3 k3 st3 m3 D3 eb3 C3 mp3 md3 kk3 hs => ⟨_, _, rfl, PIf.no rfl ?_⟩
 refine ABP (B := MH) (conds := ⟨none, 0, 0⟩) (cl := []) (sl := batch) E C3 (by decide) (by decide) (by decide) View.nil (v.ext C3.db.mem.ext) (C3.args v) (fun x hx => by cases hx) fun h4 q4 k4 st4 m4 D4 n4 C4 _ _ mp4 md4 kk4 => ⟨_, rfl, ?_⟩
 have ln : (BH st4).length ≤ 64 := by
  rw [mp4, mp3]
  unfold doM
  split
  ·rename_i hz
   have hck : Bu l = 0 := Decidable.byContradiction fun hne => by
    unfold doC at hz
    rw [if_neg (by simp), if_pos hne] at hz
    exact hne hz
   have := Vy l []
   have := (KI hck).1.len
   simp only [List.length_nil] at *; omega
  ·simp
 generalize hM : BH st4 = ml at *
 refine PE C4 (by decide) fun s1 h5 o5 b5 x5 => ⟨s1, _, rfl, ?_⟩
 rw [hM, show (1000 : Int) = ((1000 : Nat) : Int) from rfl, Vv (by omega)] at o5
 have C5 := C4.on x5
 refine PE C5 (by omega) fun s2 h6 o6 b6 x6 => ⟨s2, _, rfl, ?_⟩
 rw [hM, show (1000 : Int) = ((1000 : Nat) : Int) from rfl, AEt (by omega)] at o6
 have C6 := C5.on x6
 have v1 := o5.view.ext x6
 have v2 := o6.view
 have hfl := List.length_filter_le (fun x => MP p x.key) ml
 refine Loop.rule (fun mm x hh => ∃ i : Nat, x = ((((ml.take i).filter fun x => MP p x.key).length : Int), (i : Int), ()) ∧ mm = ml.length - i ∧ i ≤ ml.length ∧ Ext h6 hh) ?_ ⟨0, rfl, rfl, Nat.zero_le _, Mod.refl⟩
 rintro K mm _ hh ⟨i, rfl, rfl, hi, xx⟩ hK
 dsimp only
 rw [v1.len]
 have hci : ((ml.take i).filter fun x => MP p x.key).length ≤ i := by
  have := List.length_filter_le (fun x => MP p x.key) (ml.take i)
  rw [List.length_take] at this; omega
 refine PIf.intro (fun hq => ?_) (fun hq => ?_)
 ·have hil : i < ml.length := by have := of_decide_eq_true hq; omega
  have hget : ml[i]? = some ml[i] := List.getElem?_eq_getElem hil
  have htk : ml.take (i + 1) = ml.take i ++ [ml[i]] := by rw [List.take_add_one, hget]; rfl
  generalize ml[i] = x at *
  refine Join.mk fun K1 hK1 => ?_
  rw [← v1.len]
  refine (v1.ext xx).idx hget fun a _ c0 => ?_
  obtain ⟨p0, p1, p2⟩ := c0.pair
  refine AC.mk p0 (AC.mk p1 (AY.mk p2 (New.pair fun b9 h9 eb9 hb9 x9 s9 => ?_)))
  have x69 := xx.trans x9
  have next : ∀ h', Ext h6 h' → ∀ n : Int, n = (((ml.take (i + 1)).filter fun x => MP p x.key).length : Int) → K1 (n, ()) h' := fun h' x' n en => by
   subst en
   refine hK1 _ _ ?_
   rw [AR (by omega)]
   exact hK (ml.length - (i + 1)) _ _ (by omega) ⟨i + 1, rfl, rfl, hil, x'⟩
  rw [htk, List.filter_append] at next
  refine Join.mk fun K2 hK2 => ?_
  have yes : MP p x.key = true → K2 (true, ()) h9 := fun hpre => hK2 _ _ (PIf.yes rfl (by
   have hat := Px (f := fun x => MP p x.key) hget hpre
   have hlt := (List.getElem?_eq_some_iff.1 hat).1
   refine Join.mk fun K3 hK3 => PIf.no (by rw [v2.len]; exact decide_eq_false (by omega)) ?_
   refine (v2.ext x69).idx hat fun a2 _ d0 => ?_
   obtain ⟨r0, r1, r2⟩ := d0.pair
   refine AC.mk r0 (AC.mk r1 (AY.mk r2 (AC.mk (AJ hb9 rfl) (AC.mk (AB hb9 rfl) (AY.mk (AB hb9 rfl) ?_)))))
   refine AJ5 (xs := AK1 x) (ys := AK1 x) ALV (AKg x) rfl rfl rfl ⟨_, rfl, ?_⟩
   refine hK3 _ _ (PIf.no (by simp) ?_)
   rw [AR (by omega)]
   refine next h9 x69 _ ?_
   simp [hpre]))
  have no : MP p x.key = false → K2 (false, ()) h9 := fun hpre => hK2 _ _ (PIf.no rfl (next h9 x69 _ (by simp [hpre])))
  refine AC.mk (AJ hb9 rfl) (PIf.intro (fun hge => ?_) (fun hlt => ?_))
  ·have hge : p.size ≤ x.key.size := by have := of_decide_eq_true hge; omega
   refine AC.mk (AJ hb9 rfl) ⟨⟨by omega, by omega⟩, ?_⟩
   have e : sEq (x.key.extract 0 ((p.size : Int).toNat)) p = MP p x.key := by rw [AAQ, decide_eq_true hge]; rfl
   rw [e]
   cases hpre : MP p x.key with
   | true => exact yes hpre
   | false => exact no hpre
  ·have hlt : ¬ p.size ≤ x.key.size := by have := of_decide_eq_false hlt; omega
   exact no (by rw [AAQ, decide_eq_false hlt]; rfl)
 ·have hil : i = ml.length := by have := of_decide_eq_false hq; omega
  subst hil
  refine PIf.yes rfl (PIf.yes rfl ?_)
  rw [List.take_length, v2.len]
  have e : ((((ml.filter fun x => MP p x.key).length : Nat) : Int) == (((ml.filter fun x => MP p x.key).length : Nat) : Int)) = true := by simp
  rw [e]
  exact H hh (C6.db.mem.ext.trans xx)
end Go.Lf.G

