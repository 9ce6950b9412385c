/-
 The law CasWinner (chapter 10) over its formula.
-/
import Derived.Test.YtdmlhpjdmgaggaaGreatDoorLfGLCasWinner
import Derived.Test.YtdmlhpjdmgaggaaGreatDoorLfQ13
set_option linter.unusedVariables false
set_option linter.unusedSimpArgs false
set_option maxRecDepth 100000
set_option linter.unusedVariables false
set_option linter.unusedSimpArgs false
namespace Go.Lf.G
open Go
open M (Sorted Ah Df BL Al BF CZ Au OkL Bo atK Br)
theorem AKj {m : List Pr} (s : Sorted m) {k v : ByteArray} : Fj (wrL m [⟨k, v, false⟩]) k = (v, true) := by
 unfold Fj
 rw [show wrL m [⟨k, v, false⟩] = wr1 m ⟨k, v, false⟩ from rfl, ACT s, if_pos rfl, HZ]
 rfl
theorem AGy {k v : ByteArray} (h1 : k ≠ ⟨#[]⟩) (h2 : k.size ≤ 64) (h3 : v.size ≤ 8192) : Bu [⟨k, v, false⟩] = 0 := by
 have e : Au ⟨k, v, false⟩ = 0 := by
  unfold Au
  rw [if_neg (by simp [h1]), if_neg (by simp; omega)]
 unfold Bu
 rw [if_neg (by simp), if_neg (by simp)]
 unfold EE
 rw [if_neg (by rw [e]; decide)]
 rfl
theorem AKF {m cl l : List Pr} (h1 : cl.length ≤ 64) (h2 : Bu l = 0) : doC m cl l = if cl.all (Co m) then 0 else 100 := by
 unfold doC
 rw [if_neg (by omega), if_neg (by rw [h2]; decide)]
theorem AKK (n : Int) : ∃ a : UInt8, IntKind.wrap .u8 n = (a.toNat : Int) := by
 have e : IntKind.wrap .u8 n = n % 256 := by simp [IntKind.wrap, IntKind.bits, IntKind.signed]
 refine ⟨UInt8.ofNat (n % 256).toNat, ?_⟩
 rw [e, UInt8.toNat_ofNat']; omega
theorem lost {m : List Pr} (s : Sorted m) {keys : List ByteArray} {key v : ByteArray} (hk : key ∈ keys) (hv : v ≠ (Fj m key).1) : (JW m keys).all (Co (wrL m [⟨key, v, false⟩])) = false := by
 rw [List.all_eq_false]
 refine ⟨⟨key, (Fj m key).1, !(Fj m key).2⟩, List.mem_map.2 ⟨key, hk, rfl⟩, ?_⟩
 unfold Co
 rw [AKj s]
 cases (Fj m key).2 <;> simp [hv]
theorem AAj {A : Amb} {h : Heap} {x0 x1 x2 : Sl} {first : List Pr} {keys vals : List ByteArray} {R : Value → Heap → Prop} (E : Evn h) (v0 : View Af h x0 first) (v1 : View EC h x1 keys) (v2 : View EC h x2 vals) (hk : ∀ k ∈ keys, k.size ≤ 1048576) (hv : ∀ k ∈ vals, k.size ≤ 1048576) (hvl : vals.length ≤ 1048576) (H : ∀ h', Ext h h' → R (.bool true) h') : AA A P E9 #[.slice x0.p x0.len x0.cap, .slice x1.p x1.len x1.cap, .slice x2.p x2.len x2.cap] h R := by
 refine Li ?_
 unfold E8
 refine NF E fun h1 xb => ⟨_, rfl, PIf.no rfl ?_⟩
 refine Pz fun b h2 Sb B2 xc f2 => ⟨_, rfl, ?_⟩
 have x02 := xb.trans xc
 have sz1 := xb.size
 refine ML (B := MH) E B2 x02 (fun c hc => by have := f2 c hc; omega) rfl rfl (fun n => rfl) (fun n => rfl) (fun x hx => absurd rfl hx) (by decide) (by decide) fun h3 s q3 k3 st3 m3 D3 eb3 C3 mp3 md3 kk3 hs => ⟨_, _, rfl, PIf.no rfl ?_⟩
 have hg3 : h.size ≤ h3.size := C3.db.mem.ext.size
 have hs3 := C3.lt
 refine New.mk fun h4 _ hb4 x4 s4 => Join.mk fun K1 hK1 => ?_
 have M4 : EG h4 k3 s h3.size ⟨none, 0, 0⟩ [] 0 := ⟨hb4, C3.db.free (Nat.le_refl _), View.nil, fun c hc => by simp [Sl.blk] at hc, by omega⟩
 generalize hbm : h3.size = bm at *
 refine ACH (B := MH) (first := x0) E (C3.on x4) M4 hg3 mp3 (by decide) (by decide) v0 fun h7 q7 k7 st7 m7 D7 n7 sm n2 C7 hn7 M7 hn2 ln => hK1 _ _ ?_
 clear hK1 K1
 have srt := C7.db.sorted
 have v17 := v1.ext C7.db.mem.ext
 refine Join.mk fun K2 hK2 => ?_
 have yes : K2 (true, ()) h7 := hK2 _ _ (PIf.yes rfl (H h7 C7.db.mem.ext))
 have hl1 := v1.len
 refine PIf.intro (fun _ => yes) (fun q1 => PIf.intro (fun _ => yes) (fun q2 => ?_))
 have hkl : keys.length ≤ 60 := by have h1 := of_decide_eq_false q2; omega
 have hk0 : 0 < keys.length := Nat.pos_of_ne_zero fun h => by
  rw [hl1, h] at q1; simp at q1
 have hget : keys[0]? = some keys[0] := List.getElem?_eq_getElem hk0
 have hmem : keys[0] ∈ keys := List.getElem_mem hk0
 generalize keys[0] = key at *
 refine v17.idx (i := 0) hget fun a _ c0 => AC.mk c0.str (PIf.intro (fun _ => yes) (fun q3 => ?_))
 refine v17.idx (i := 0) hget fun a1 _ c1 => AC.mk c1.str ?_
 refine hK2 _ _ (PIf.intro (fun _ => H h7 C7.db.mem.ext) (fun q4 => ?_))
 clear yes hK2 K2
 have hne : key ≠ ⟨#[]⟩ := by
  rw [BR] at q3
  exact of_decide_eq_false q3
 have hks : key.size ≤ 64 := by have h1 := of_decide_eq_false q4; omega
 refine AQ.mk (s := sm) (AJ M7.cell rfl) ?_
 refine v17.idx (i := 0) hget fun a2 _ c2 => AC.mk c2.str ?_
 refine ABe (s := sm) M7.view srt (by omega) fun h8 x8 => ⟨_, _, rfl, ?_⟩
 have C8 := C7.on x8
 have M8 := M7.ext x8
 refine AQ.mk (s := sm) (AJ M8.cell rfl) (AZ.mk (AB M8.cell rfl) ?_)
 refine AHD (s := sm) (ks := x1) M8.view (v17.ext x8) srt (by omega) (by omega) fun sl h9 o9 b9 x9 => ⟨sl, rfl, ?_⟩
 have C9 := C8.on x9
 have hs8 := C8.lt
 generalize hM : BH st7 = M0 at *
 have hnl : (JW M0 keys).length = keys.length := by simp [JW]
 have hkc : ∀ x ∈ JW M0 keys, x.key.size ≤ 1099511627776 := fun x hx => by
  obtain ⟨k, hk1, rfl⟩ := List.mem_map.1 hx
  have := hk k hk1
  show k.size ≤ _
  omega
 refine Loop.rule (fun mm x hh => ∃ (i w : Nat) (q : Hp) (k : Nat → Nat) (st : Db) (m : Bx) (D : BK) (n : Nat), x = ((w : Int), (i : Int), ()) ∧ Ej MH h hh s q k st m D (4 + 3 * w) (64 + 64 * w) n ∧ n ≤ 1 + w ∧ View Af hh sl (JW M0 keys) ∧ (∀ c, sl.blk = some c → k c = 0 ∧ c < hh.size ∧ c ≠ s) ∧ ((w = 0 ∧ BH st = M0) ∨ (w = 1 ∧ ∃ v, v ≠ (Fj M0 key).1 ∧ BH st = wrL M0 [⟨key, v, false⟩])) ∧ i ≤ vals.length ∧ mm = vals.length - i) ?_
  ⟨0, 0, q7, k7, st7, m7, D7, n7, rfl, C9, by omega, o9.view, fun c hc => by
   have h1 := b9 c hc
   exact ⟨C8.db.free h1, o9.lt hc, by omega⟩, .inl ⟨rfl, hM⟩, Nat.zero_le _, rfl⟩
 rintro K mm _ hh ⟨i, w, q, k, st, m, D, n, rfl, C, hn, vw, bw, hw, hi, rfl⟩ hK
 dsimp only
 have hw1 : w ≤ 1 := by rcases hw with h | h <;> omega
 rw [v2.len]
 refine PIf.intro (fun hq => ?_) (fun hq => ?_)
 ·have hil : i < vals.length := by have := of_decide_eq_true hq; omega
  have hgv : vals[i]? = some vals[i] := List.getElem?_eq_getElem hil
  have hvs := hv vals[i] (List.getElem_mem hil)
  generalize vals[i] = v at *
  rw [← v2.len]
  refine Join.mk fun K3 hK3 => ?_
  have same : ∀ h', Ext hh h' → K3 ((w : Int), ()) h' := fun h' x' => by
   refine hK3 _ _ ?_
   dsimp only
   rw [AR (by omega)]
   exact hK (vals.length - (i + 1)) _ _ (by omega) ⟨i + 1, w, q, k, st, m, D, n, rfl, C.on x', hn, vw.ext x', fun c hc => by
    obtain ⟨h1, h2, h3⟩ := bw c hc
    have := x'.size
    exact ⟨h1, by omega, h3⟩, hw, hil, rfl⟩
  refine (v2.ext C.db.mem.ext).idx hgv fun a3 _ c3 => AC.mk c3.str ?_
  obtain ⟨ua, ea⟩ := AKK (i : Int)
  obtain ⟨ub, eb⟩ := AKK ((i : Int).fdiv ((2 : Int) ^ (8 : Nat)))
  rw [ea, eb]
  refine New.mk fun h10 _ hb10 x10 s10 => ?_
  have v10 : View IC h10 ⟨some ⟨hh.size, 0, none⟩, 2, 2⟩ [ua, ub] := (Own.lit (E := IC) (l := [ua, ub]) hb10 rfl (by simp [maxLen])).view
  refine MX (s := ⟨some ⟨hh.size, 0, none⟩, 2, 2⟩) ABh AKC Il v10 ⟨_, rfl, ?_⟩
  have e2 : (Aa [ua, ub]).size = 2 := AV _
  have e1 : (⟨#[120]⟩ : ByteArray).size = 1 := rfl
  generalize Aa [ua, ub] = tail at *
  refine ⟨by rw [e1, e2]; decide, ⟨by rw [ByteArray.size_append, e1, e2]; show ((v.size + (1 + 2) : Nat) : Int) ≤ 9223372036854775807; omega, ?_⟩⟩
  generalize v ++ ((⟨#[120]⟩ : ByteArray) ++ tail) = vv
  refine Join.mk fun K4 hK4 => ?_
  have skip : K4 (true, ()) h10 := hK4 _ _ (PIf.yes rfl (same h10 x10))
  refine PIf.intro (fun _ => skip) (fun q5 => hK4 _ _ (PIf.intro (fun _ => same h10 x10) (fun q6 => ?_)))
  have hvne : vv ≠ (Fj M0 key).1 := by
   rw [BR] at q5
   exact of_decide_eq_false q5
  have hvz : vv.size ≤ 8192 := by have h1 := of_decide_eq_false q6; omega
  have C10 := C.on x10
  refine (v1.ext C10.db.mem.ext).idx (i := 0) hget fun a4 _ c4 => AC.mk c4.str ?_
  refine New.mk fun h11 _ hb11 x11 s11 => ?_
  have C11 := C10.on x11
  have vl : View Af h11 ⟨some ⟨h10.size, 0, none⟩, 1, 1⟩ [⟨key, vv, false⟩] := (Own.lit (E := Af) (l := [⟨key, vv, false⟩]) hb11 rfl (by simp [maxLen])).view
  have kz : k h10.size = 0 := C10.db.free (Nat.le_refl _)
  have hck := AGy hne hks hvz
  have two := AKF (m := BH st) (cl := JW M0 keys) (by omega) hck
  have x011 := x10.trans x11
  refine WM (B := MH) (conds := sl) (sl := ⟨some ⟨h10.size, 0, none⟩, 1, 1⟩) E C11 (by show 4 + 3 * w + 3 ≤ 700; omega) (by show 64 + 64 * w + 64 ≤ 12800; omega) (by omega) (vw.ext x011) vl (fun _ b hb => by
   have e : h10.size = b := by simpa [Sl.blk] using hb
   subst e; exact ⟨by omega, kz⟩) hkc (fun hne1 h12 x12 => ⟨_, rfl, ?_⟩) fun hz h12 q12 k12 st12 m12 D12 ed12 eb12 C12 mp12 md12 kk12 => ⟨_, rfl, PIf.yes rfl ?_⟩
  ·have e100 : doC (BH st) (JW M0 keys) [⟨key, vv, false⟩] = 100 := by
    rw [two] at hne1 ⊢
    split
    ·rename_i h1; rw [if_pos h1] at hne1; exact absurd rfl hne1
    ·rfl
   rw [e100]
   exact PIf.no rfl (PIf.no rfl (same h12 (x011.trans x12)))
  ·have hw0 : w = 0 ∧ BH st = M0 := by
    rcases hw with h1 | ⟨h1, v', h2, h3⟩
    ·exact h1
    ·rw [two, h3, lost srt hmem h2] at hz
     exact absurd hz (by decide)
   obtain ⟨rfl, hm0⟩ := hw0
   refine hK3 _ _ ?_
   dsimp only
   rw [AR (by omega), AR (by omega)]
   have sz12 := md12.size
   have sz11 := x011.size
   refine hK (vals.length - (i + 1)) _ _ (by omega) ⟨i + 1, 1, q12, k12, st12, m12, D12, n + 1, rfl, C12, by omega, (vw.ext x011).mod md12 fun c hc hm => ?_, fun c hc => ?_, .inr ⟨rfl, vv, hvne, by rw [mp12, hm0]⟩, hil, rfl⟩
   ·obtain ⟨e1, e2, e3⟩ := bw c hc
    rcases hm with h | h | h
    ·exact h e1
    ·omega
    ·exact e3 h
   ·obtain ⟨e1, e2, e3⟩ := bw c hc
    refine ⟨Decidable.byContradiction fun h3 => ?_, by omega, e3⟩
    rcases kk12 c h3 with h | h
    ·exact h e1
    ·omega
 ·rw [decide_eq_true (by omega : ((w : Nat) : Int) ≤ 1)]
  exact H hh C.db.mem.ext
end Go.Lf.G

