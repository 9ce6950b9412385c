/-
  Contracts: the document's events (chapter 13): a field is there, or not.
-/
import Derived.Test.YtcaiammecilkeaaLfV10ToS1
set_option maxRecDepth 100000
set_option linter.unusedVariables false
set_option linter.unusedSimpArgs false
namespace Go.Lf.G
open Go

theorem idx_mem (c : UInt8) : ∀ l : List UInt8, decide (0 ≤ Lib.indexByte l c) = l.contains c
  | [] => by simp [Lib.indexByte]
  | b :: l => by
    have ih := idx_mem c l
    have hge := Lib.indexByte_ge l c
    unfold Lib.indexByte
    by_cases hb : b = c
    · subst hb; simp
    · have h1 : (b == c) = false := by simpa using hb
      have h2 : (c == b) = false := by simpa using fun h : c = b => hb h.symm
      rw [h1]
      simp only [Bool.false_eq_true, if_false, List.contains_cons, h2, Bool.false_or]
      rw [← ih]
      by_cases hm : Lib.indexByte l c = -1
      · simp [hm]
      · have : (Lib.indexByte l c == -1) = false := by simpa using hm
        rw [this]
        simp only [Bool.false_eq_true, if_false]
        rw [decide_eq_decide]
        omega
theorem Contains_ok {A : Amb} {h : Heap} {l : List UInt8} {c : UInt8} {R : Value → Heap → Prop} (H : R (.bool (l.contains c)) h) : HCalls A P f_strings_Contains #[.string (strL l), .string ⟨#[c]⟩] h R := by
  intro n
  refine Calls.mono (Proofs.Any.strings_Contains_one Proofs.Try.lays144 (strL l) c (A.at h n)) ?_
  rintro e w' ⟨rfl, rfl⟩
  refine ⟨_, rfl, h, n, rfl, ?_⟩
  rw [strL_list, idx_mem]
  exact H
theorem rIn13_ok {A : Amb} {h : Heap} {l : List UInt8} {c : UInt8} {n lo hi : Int} {R : Value → Heap → Prop} (H : R (.bool (inE (l.contains c) n lo hi)) h) :
    HCalls A P f_wherryref13_in #[.string (strL l), .string ⟨#[c]⟩, .int .i64 n, .int .i64 lo, .int .i64 hi] h R := by
  refine ok_wherryref13_in ?_
  unfold F_wherryref13_in
  refine Contains_ok ⟨_, rfl, ?_⟩
  cases hc : l.contains c with
  | false =>
    rw [hc] at H
    refine PIf.yes rfl ?_
    rw [eq0]; exact H
  | true =>
    rw [hc] at H
    refine PIf.no rfl ?_
    refine PIf.intro (fun hq => ?_) (fun hq => ?_)
    · have e : inE true n lo hi = decide (n ≤ hi) := by simp at hq; simp only [inE, if_true, inI]; rw [decide_eq_decide]; omega
      rw [e] at H; exact H
    · have e : inE true n lo hi = false := by simp at hq; simp only [inE, if_true, inI]; simp; omega
      rw [e] at H; exact H
theorem ltrs_has (k : Int) : (ltrs k).contains 114 = flR k ∧ (ltrs k).contains 115 = flS k ∧ (ltrs k).contains 116 = flT k := by
  unfold ltrs
  generalize flR k = a
  generalize flS k = b
  generalize flT k = c
  generalize flU k = d
  by_cases h1 : k = 1
  · rw [if_pos h1]; cases a <;> cases b <;> cases c <;> cases d <;> decide
  · rw [if_neg h1]
    by_cases h2 : k = 12
    · rw [if_pos h2]; cases a <;> cases b <;> cases c <;> cases d <;> decide
    · rw [if_neg h2]; cases a <;> cases b <;> cases c <;> cases d <;> decide
end Go.Lf.G

/-
  Contracts: the document's events (chapter 13): what may be one.
-/
set_option maxRecDepth 100000
set_option linter.unusedVariables false
set_option linter.unusedSimpArgs false
namespace Go.Lf.G
open Go

theorem ltrs_tab : ∀ n : Nat, n < 19 → (decide (ltrs (n : Int) = [112]) = decide ((n : Int) = 1)) ∧ (decide (ltrs (n : Int) = [110]) = decide ((n : Int) = 12)) ∧ (decide (ltrs (n : Int) = [115, 117]) = flU (n : Int)) := by decide
theorem ltrs_sp {k : Int} (h : 1 ≤ k ∧ k ≤ 18) : decide (ltrs k = [112]) = decide (k = 1) ∧ decide (ltrs k = [110]) = decide (k = 12) ∧ decide (ltrs k = [115, 117]) = flU k := by
  have hk : k = ((k.toNat : Nat) : Int) := by omega
  have := ltrs_tab k.toNat (by omega)
  rw [← hk] at this
  exact this
theorem sEq_strL (a b : List UInt8) : sEq (strL a) (strL b) = decide (a = b) := by rw [sEq_iff, decide_eq_decide]; exact strL_inj
theorem rDecode12_ok' {A : Amb} {h : Heap} {s : ByteArray} {R : Value → Heap → Prop} (hl : s.size < 1099511627776)
    (H : ∀ h' sl, Ext h h' → (∀ p, decPrg (bl s) = some p → View StpE h' sl p.steps) → R (resPrg (decPrg (bl s)) sl) h') : HCalls A P f_wherryref12_Decode #[.string s] h R := by
  have := rDecode12_ok (A := A) (h := h) (l := bl s) (R := R) (by rw [bl_size]; exact hl) H
  rwa [strL_bl] at this

theorem rRight13_ok {A : Amb} {h : Heap} {e : Ev} {R : Value → Heap → Prop} (hd : e.data.size < 1099511627776) (H : ∀ h', Ext h h' → R (.bool (evOK e)) h') : HCalls A P f_wherryref13_Right #[evA e] h R := by
  refine ok_wherryref13_Right ?_
  unfold F_wherryref13_Right
  refine New.mk fun h1 _ hb x1 hs1 => ?_
  refine LoadI.mk (hget_lit1 hb rfl) (rfields_ok fun h2 x2 => ⟨_, _, rfl, ?_⟩)
  have x02 := x1.trans x2
  have hb2 := x2.blk hb (fun h => h)
  refine Join.mk fun K hK => ?_
  have no : evOK e = false → ∀ h', Ext h h' → R (.bool false) h' := fun hh h' x => by have := H h' x; rw [hh] at this; exact this
  have bad : evHead e = false → K (true, ()) h2 := fun hh => hK _ _ (PIf.yes rfl (no (by simp [evOK, hh]) h2 x02))
  cases hin : inI e.kind 1 18 with
  | false => exact PIf.yes rfl (bad (by simp [evHead, hin]))
  | true =>
    refine PIf.no rfl ?_
    have hk := inI_iff.1 hin
    obtain ⟨p1, p2, p3⟩ := ltrs_sp hk
    obtain ⟨c1, c2, c3⟩ := ltrs_has e.kind
    simp only [hin, if_true] at hK
    refine LoadI.mk (hget_lit hb2 rfl) (PIf.intro (fun q => bad ?_) (fun q1 => ?_))
    · have : inI e.id 1 500 = false := by simp at q; unfold inI; simp; omega
      simp [evHead, this]
    refine LoadI.mk (hget_lit hb2 rfl) (PIf.intro (fun q => bad ?_) (fun q2 => ?_))
    · have : inI e.id 1 500 = false := by simp at q; unfold inI; simp; omega
      simp [evHead, this]
    have i1 : 1 ≤ e.id ∧ e.id ≤ 500 := by simp at q1 q2; omega
    have i1' : inI e.id 1 500 = true := inI_iff.2 i1
    refine LoadI.mk (hget_lit1 hb2 rfl) (PIf.intro (fun q => bad ?_) (fun q3 => ?_))
    · have : inI e.tick 0 1099511627776 = false := by simp at q; unfold inI; simp; omega
      simp [evHead, this]
    refine LoadI.mk (hget_lit1 hb2 rfl) ?_
    cases q4 : decide (e.tick > (1099511627776 : Int)) with
    | true =>
      have : inI e.tick 0 1099511627776 = false := by simp at q4; unfold inI; simp; omega
      exact bad (by simp [evHead, this])
    | false =>
      have i2 : inI e.tick 0 1099511627776 = true := by simp at q3 q4; rw [inI_iff]; omega
      refine hK _ _ (PIf.no rfl ?_)
      refine Join.mk fun K1 hK1 => ?_
      have bad1 : evHead e = false → K1 (true, ()) h2 := fun hh => hK1 _ _ (PIf.yes rfl (no (by simp [evOK, hh]) h2 x02))
      refine LoadI.mk (hget_lit1 hb2 rfl) (LoadI.mk (hget_lit hb2 rfl) ?_)
      rw [wrap_i64 (n := e.id - 1) (by omega) (by omega)]
      refine rIn13_ok ⟨_, rfl, ?_⟩
      rw [c1]
      refine PIf.intro (fun q => bad1 ?_) (fun q5 => ?_)
      · have : inE (flR e.kind) e.ref 1 (e.id - 1) = false := by simpa using q
        simp [evHead, this]
      have i3 : inE (flR e.kind) e.ref 1 (e.id - 1) = true := by simpa using q5
      refine LoadI.mk (hget_lit1 hb2 rfl) (rIn13_ok ⟨_, rfl, ?_⟩)
      rw [c2]
      refine PIf.intro (fun q => bad1 ?_) (fun q6 => ?_)
      · have : inE (flS e.kind) e.step 0 15 = false := by simpa using q
        simp [evHead, this]
      have i4 : inE (flS e.kind) e.step 0 15 = true := by simpa using q6
      refine LoadI.mk (hget_lit1 hb2 rfl) (rIn13_ok ⟨_, rfl, ?_⟩)
      rw [c3]
      refine PIf.intro (fun q => bad1 ?_) (fun q7 => ?_)
      · have : inE (flT e.kind) e.turn 1 5 = false := by simpa using q
        simp [evHead, this]
      have i5 : inE (flT e.kind) e.turn 1 5 = true := by simpa using q7
      have eh : evHead e = ((!e.undo || flU e.kind) && (decide (e.data = bs0') || flD e.kind)) := by simp [evHead, hin, i1', i2, i3, i4, i5]
      have good : (!e.undo || flU e.kind) = true → K1 (false, ()) h2 := fun hu => by
        rw [hu, Bool.true_and] at eh
        refine hK1 _ _ (PIf.no rfl ?_)
        have s112 : (⟨#[112]⟩ : ByteArray) = strL [112] := rfl
        have s110 : (⟨#[110]⟩ : ByteArray) = strL [110] := rfl
        rw [s112, sEq_strL, p1]
        refine PIf.intro (fun q => ?_) (fun q => ?_)
        · have q : e.kind = 1 := of_decide_eq_true q
          have hD : flD e.kind = true := by rw [q]; decide
          have et : evOK e = (decPrg (bl e.data)).isSome := by
            unfold evOK evTail
            rw [eh, hD, Bool.or_true, Bool.true_and, if_pos q]
          refine LoadS.mk (hget_lit1 hb2 rfl) (rDecode12_ok' hd fun h5 sl x5 _ => ?_)
          have x05 := x02.trans x5
          cases hp : decPrg (bl e.data) with
          | none =>
            refine ⟨⟨none, 0, 0⟩, _, _, rfl, ?_⟩
            refine New.mk fun h6 _ hb6 x6 hs6 => Store.two hb6 fun h7 hb7 m7 hs7 => ?_
            exact no (by rw [et, hp]; rfl) h7 ((x05.trans x6).more m7 fun c hc => by subst hc; exact x05.size)
          | some p =>
            refine ⟨sl, _, _, rfl, ?_⟩
            refine New.mk fun h6 _ hb6 x6 hs6 => Store.two hb6 fun h7 hb7 m7 hs7 => ?_
            have := H h7 ((x05.trans x6).more m7 fun c hc => by subst hc; exact x05.size)
            rw [et, hp] at this
            exact this
        · have q : e.kind ≠ 1 := of_decide_eq_false q
          rw [s110, sEq_strL, p2]
          refine PIf.intro (fun q' => ?_) (fun q' => ?_)
          · have q' : e.kind = 12 := of_decide_eq_true q'
            have hD : flD e.kind = true := by rw [q']; decide
            have et : evOK e = nameOK e.data := by
              unfold evOK evTail
              rw [eh, hD, Bool.or_true, Bool.true_and, if_neg q, if_pos q']
            refine LoadS.mk (hget_lit1 hb2 rfl) (rNamed_ok (by omega) ⟨_, rfl, ?_⟩)
            have := H h2 x02
            rw [et] at this
            exact this
          · have q' : e.kind ≠ 12 := of_decide_eq_false q'
            have hD : flD e.kind = false := by unfold flD; exact decide_eq_false (by omega)
            have et : evOK e = decide (e.data = bs0') := by
              unfold evOK evTail
              rw [eh, hD, Bool.or_false, if_neg q, if_neg q', Bool.and_true]
            refine LoadS.mk (hget_lit1 hb2 rfl) ?_
            rw [bs_eq]
            have := H h2 x02
            rw [et] at this
            exact this
      have s2 : (⟨#[115, 117]⟩ : ByteArray) = strL [115, 117] := rfl
      refine LoadB.mk (hget_lit1 hb2 rfl) (PIf.intro (fun q => ?_) (fun q => good (by rw [q]; rfl)))
      rw [s2, sEq_strL, p3]
      cases hu : flU e.kind with
      | true => exact good (by rw [hu, Bool.or_true])
      | false => exact bad1 (by rw [eh, q, hu]; rfl)
end Go.Lf.G

/-
  Contracts: the document's events as bytes (chapter 13).
-/
set_option maxRecDepth 100000
set_option linter.unusedVariables false
set_option linter.unusedSimpArgs false
namespace Go.Lf.G
open Go

/-- the bytes of one letter's field -/
def fb (e : Ev) (c : UInt8) : List UInt8 := if c = 114 then putV e.ref.toNat else if c = 115 then putV e.step.toNat else if c = 116 then putV e.turn.toNat else if c = 117 then putV (if e.undo then 1 else 0) else textL (bl e.data)
theorem fb_all {e : Ev} (h : 1 ≤ e.kind ∧ e.kind ≤ 18) : encEv e = (putV e.id.toNat ++ putV e.kind.toNat ++ putV e.tick.toNat) ++ (ltrs e.kind).flatMap (fb e) := by
  obtain ⟨id, kind, tick, ref, step, turn, undo, data⟩ := e
  simp only at h ⊢
  have hk : kind = 1 ∨ kind = 2 ∨ kind = 3 ∨ kind = 4 ∨ kind = 5 ∨ kind = 6 ∨ kind = 7 ∨ kind = 8 ∨ kind = 9 ∨ kind = 10 ∨ kind = 11 ∨ kind = 12 ∨ kind = 13 ∨ kind = 14 ∨ kind = 15 ∨ kind = 16 ∨ kind = 17 ∨ kind = 18 := by omega
  have hu : (if undo = true then (1 : Int) else 0).toNat = if undo = true then 1 else 0 := by cases undo <;> rfl
  rcases hk with rfl | rfl | rfl | rfl | rfl | rfl | rfl | rfl | rfl | rfl | rfl | rfl | rfl | rfl | rfl | rfl | rfl | rfl <;>
    simp [encEv, ltrs, flR, flS, flT, flU, flD, optP, optT, fb, hu]
theorem ltrs_len (k : Int) : (ltrs k).length ≤ 5 := by
  unfold ltrs
  simp only [List.length_append]
  have : ∀ (b : Bool) (x : List UInt8), x.length ≤ 1 → (if b then x else []).length ≤ 1 := fun b x h => by cases b <;> simp [h]
  have h1 := this (flS k) [115] (by simp)
  have h2 := this (flR k) [114] (by simp)
  have h3 := this (flT k) [116] (by simp)
  have h4 := this (flU k) [117] (by simp)
  have h5 : (if k = 1 then ([112] : List UInt8) else if k = 12 then [110] else []).length ≤ 1 := by split <;> (try split) <;> simp
  omega
theorem flat_bound {M : Nat} {f : UInt8 → List UInt8} (hf : ∀ c, (f c).length ≤ M) : ∀ l : List UInt8, (l.flatMap f).length ≤ l.length * M
  | [] => by simp
  | c :: l => by
    have h1 := hf c
    have h2 := flat_bound hf l
    simp only [List.flatMap_cons, List.length_append, List.length_cons, Nat.add_mul]
    omega

theorem rEncode13_ok {A : Amb} {h : Heap} {e : Ev} {R : Value → Heap → Prop} (hd : e.data.size ≤ 4194304) (H : ∀ h', Ext h h' → R (resEnc e) h') : HCalls A P f_wherryref13_Encode #[evA e] h R := by
  refine ok_wherryref13_Encode ?_
  unfold F_wherryref13_Encode
  refine New.mk fun h1 _ hb x1 hs1 => ?_
  refine LoadI.mk (hget_lit hb rfl) (LoadI.mk (hget_lit1 hb rfl) (LoadI.mk (hget_lit1 hb rfl) (LoadI.mk (hget_lit1 hb rfl) (LoadI.mk (hget_lit1 hb rfl) (LoadI.mk (hget_lit1 hb rfl) (LoadB.mk (hget_lit1 hb rfl) (LoadS.mk (hget_lit1 hb rfl) ?_)))))))
  refine rRight13_ok (e := e) (by omega) fun h2 x2 => ⟨_, rfl, ?_⟩
  cases hok : evOK e with
  | false =>
    refine PIf.yes rfl ?_
    have := H h2 (x1.trans x2)
    rw [resEnc, hok] at this
    exact this
  | true =>
    refine PIf.no rfl ?_
    have hb2 := x2.blk hb (fun h => h)
    have hh := evOK_head hok
    simp only [evHead, Bool.and_eq_true] at hh
    obtain ⟨⟨⟨⟨⟨⟨⟨hk, hid⟩, htk⟩, hr⟩, hs⟩, ht⟩, hu⟩, hx⟩ := hh
    have hk' := inI_iff.1 hk
    have hid' := inI_iff.1 hid
    have htk' := inI_iff.1 htk
    obtain ⟨c1, c2, c3⟩ := ltrs_has e.kind
    refine LoadI.mk (hget_lit1 hb2 rfl) (rfields_ok fun h3 x3 => ⟨_, _, rfl, ?_⟩)
    rw [hk]
    simp only [if_true]
    have hb3 := x3.blk hb2 (fun h => h)
    have H3 : ∀ h', Ext h3 h' → R (.tuple #[.string (strL (encEv e)), .int .i64 0]) h' := fun h' x => by
      have := H h' (((x1.trans x2).trans x3).trans x)
      rw [resEnc, hok] at this
      exact this
    refine LoadI.mk (hget_lit hb3 rfl) (rInt_ok' (by omega) (by omega) fun h4 x4 => ⟨_, rfl, ?_⟩)
    have hb4 := x4.blk hb3 (fun h => h)
    refine LoadI.mk (n := e.kind) (hget_lit1 hb4 rfl) ⟨hget_lit1 hb3 rfl, ?_⟩
    have l1 := putV_len10 (n := e.id.toNat) (by omega)
    have l2 := putV_len10 (n := e.kind.toNat) (by omega)
    have l3 := putV_len10 (n := e.tick.toNat) (by omega)
    refine rInt_ok' (by omega) (by omega) fun h5 x5 => ⟨_, rfl, ⟨by rw [strL_size, strL_size, max_i64]; omega, ?_⟩⟩
    have hb5 := x5.blk hb4 (fun h => h)
    refine LoadI.mk (n := e.tick) (hget_lit1 hb5 rfl) ⟨hget_lit1 hb4 rfl, hget_lit1 hb3 rfl, ?_⟩
    refine rInt_ok' (by omega) (by omega) fun h6 x6 => ⟨_, rfl, ⟨by rw [strL_app, strL_size, strL_size, max_i64, List.length_append]; omega, ?_⟩⟩
    have hb6 := x6.blk hb5 (fun h => h)
    rw [strL_app, strL_app, strL_size]
    have x36 := (x4.trans x5).trans x6
    have hlt := ltrs_len e.kind
    have hfb : ∀ c, (fb e c).length ≤ 5000000 := fun c => by
      have pos : ∀ n : Int, n ≤ 9223372036854775807 → (putV n.toNat).length ≤ 10 := fun n hn => putV_len10 (by omega)
      have t1 := textL_len (s := e.data) (by omega)
      have r1 : e.ref ≤ 1099511627776 := by cases hf : flR e.kind <;> rw [hf] at hr <;> simp [inE, inI] at hr <;> omega
      have r2 : e.step ≤ 1099511627776 := by cases hf : flS e.kind <;> rw [hf] at hs <;> simp [inE, inI] at hs <;> omega
      have r3 : e.turn ≤ 1099511627776 := by cases hf : flT e.kind <;> rw [hf] at ht <;> simp [inE, inI] at ht <;> omega
      have q1 := pos e.ref (by omega)
      have q2 := pos e.step (by omega)
      have q3 := pos e.turn (by omega)
      have q4 := putV_len10 (n := if e.undo then 1 else 0) (by split <;> omega)
      unfold fb
      split
      · omega
      · split
        · omega
        · split
          · omega
          · split <;> omega
    refine Loop.rule (fun m x hh => ∃ i : Nat, x = (strL ((putV e.id.toNat ++ putV e.kind.toNat ++ putV e.tick.toNat) ++ ((ltrs e.kind).take i).flatMap (fb e)), (i : Int), ()) ∧ Ext h6 hh ∧ m = (ltrs e.kind).length - i ∧ i ≤ (ltrs e.kind).length) ?_ ⟨0, by simp, Mod.refl, rfl, by omega⟩
    rintro K m _ hh ⟨i, rfl, xe, rfl, hi⟩ hK
    have hbh := xe.blk hb6 (fun h => h)
    refine PIf.intro (fun hq2 => ?_) (fun hq2 => ?_)
    · have hil : i < (ltrs e.kind).length := by simpa using hq2
      obtain ⟨c, hc⟩ : ∃ c, (ltrs e.kind)[i]? = some c := ⟨_, List.getElem?_eq_getElem hil⟩
      have hm := List.mem_of_getElem? hc
      have hfl := flat_bound hfb ((ltrs e.kind).take i)
      have htk5 : ((ltrs e.kind).take i).length ≤ 5 := by simp; omega
      have hmul : ((ltrs e.kind).take i).length * 5000000 ≤ 5 * 5000000 := Nat.mul_le_mul_right _ htk5
      refine ⟨⟨by dsimp only; omega, by dsimp only; omega⟩, ?_⟩
      refine Join.mk fun K1 hK1 => ?_
      have fin : ∀ h', Ext hh h' → K1 (strL (((putV e.id.toNat ++ putV e.kind.toNat ++ putV e.tick.toNat) ++ ((ltrs e.kind).take i).flatMap (fb e)) ++ fb e c), ()) h' := fun h' x => by
        refine hK1 _ _ ?_
        dsimp only
        rw [wrap_succ (by omega)]
        refine hK ((ltrs e.kind).length - (i + 1)) _ _ (by omega) ⟨i + 1, ?_, xe.trans x, rfl, hil⟩
        rw [List.take_add_one, hc, Option.toList_some, List.flatMap_append]
        simp [List.append_assoc]
      generalize hacc : (putV e.id.toNat ++ putV e.kind.toNat ++ putV e.tick.toNat) ++ ((ltrs e.kind).take i).flatMap (fb e) = acc at *
      have hal : acc.length ≤ 30000000 := by rw [← hacc]; simp only [List.length_append]; omega
      have put : ∀ (n : Int) (h' : Heap), h' = hh → 0 ≤ n ∧ n ≤ 1099511627776 → fb e c = putV n.toNat → HCalls A P f_wherryref01_Int #[.int .i64 n] h' fun v5 h9 => ∃ t47 : ByteArray, v5 = .string t47 ∧ (Chk ((((strL acc).size + t47.size : Nat) : Int) ≤ IntKind.i64.max) <| K1 ((strL acc ++ t47), ()) h9) := fun n h' e' hn ef => by
        subst e'
        have := putV_len10 (n := n.toNat) (by omega)
        refine rInt_ok' hn.1 (by omega) fun h9 x9 => ⟨_, rfl, ⟨by rw [strL_size, strL_size, max_i64]; omega, ?_⟩⟩
        rw [strL_app, ← ef]
        exact fin h9 x9
      dsimp only
      rw [sAt_nat (c := c) (by rw [strL_list]; exact hc)]
      have hceq : ∀ n : Nat, n < 256 → (((c.toNat : Nat) : Int) == ((n : Nat) : Int)) = decide (c = byteN n) := fun n hn => by
        rw [Bool.eq_iff_iff, beq_iff_eq, decide_eq_true_eq]
        constructor
        · intro h; rw [← byteN_of c]; congr 1; omega
        · rintro rfl; rw [byteN_nat hn]
      have e114 := hceq 114 (by decide)
      have e115 := hceq 115 (by decide)
      have e116 := hceq 116 (by decide)
      have e117 := hceq 117 (by decide)
      rw [show (((114 : Nat) : Int)) = (114 : Int) from rfl, show byteN 114 = (114 : UInt8) from rfl] at e114
      rw [show (((115 : Nat) : Int)) = (115 : Int) from rfl, show byteN 115 = (115 : UInt8) from rfl] at e115
      rw [show (((116 : Nat) : Int)) = (116 : Int) from rfl, show byteN 116 = (116 : UInt8) from rfl] at e116
      rw [show (((117 : Nat) : Int)) = (117 : Int) from rfl, show byteN 117 = (117 : UInt8) from rfl] at e117
      rw [e114, e115, e116, e117]
      refine PIf.intro (fun q => ?_) (fun q1 => ?_)
      · have q : c = 114 := of_decide_eq_true q
        subst q
        have : flR e.kind = true := by rw [← c1]; simpa using hm
        exact LoadI.mk (hget_lit1 hbh rfl) (put e.ref hh rfl (inE_pos hr (by decide) (by omega) this) (by simp [fb]))
      have q1 : c ≠ 114 := of_decide_eq_false q1
      refine PIf.intro (fun q => ?_) (fun q2 => ?_)
      · have q : c = 115 := of_decide_eq_true q
        subst q
        have : flS e.kind = true := by rw [← c2]; simpa using hm
        exact LoadI.mk (hget_lit1 hbh rfl) (put e.step hh rfl (inE_pos hs (by decide) (by omega) this) (by simp [fb]))
      have q2 : c ≠ 115 := of_decide_eq_false q2
      refine PIf.intro (fun q => ?_) (fun q3 => ?_)
      · have q : c = 116 := of_decide_eq_true q
        subst q
        have : flT e.kind = true := by rw [← c3]; simpa using hm
        exact LoadI.mk (hget_lit1 hbh rfl) (put e.turn hh rfl (inE_pos ht (by decide) (by omega) this) (by simp [fb]))
      have q3 : c ≠ 116 := of_decide_eq_false q3
      refine PIf.intro (fun q => ?_) (fun q4 => ?_)
      · have q : c = 117 := of_decide_eq_true q
        subst q
        refine LoadB.mk (hget_lit1 hbh rfl) (PIf.intro (fun qu => put 1 hh rfl (by decide) (by simp [fb, qu])) (fun qu => put 0 hh rfl (by decide) (by simp [fb, qu])))
      have q4 : c ≠ 117 := of_decide_eq_false q4
      refine LoadS.mk (hget_lit1 hbh rfl) (rText_ok' (by omega) fun h9 x9 => ⟨_, rfl, ⟨?_, ?_⟩⟩)
      · have := textL_len (s := e.data) (by omega)
        rw [strL_size, strL_size, max_i64]; omega
      · have := fin h9 x9
        simp only [fb, if_neg q1, if_neg q2, if_neg q3, if_neg q4] at this
        rw [strL_app]; exact this
    · have hil : i = (ltrs e.kind).length := by simp at hq2; omega
      have := H3 hh (x36.trans xe)
      dsimp only
      rw [List.take_of_length_le (by omega), ← fb_all hk']
      exact this
end Go.Lf.G

/-
  Contracts: the document's histories as bytes (chapters 13 and 20).
-/
set_option maxRecDepth 100000
set_option linter.unusedVariables false
set_option linter.unusedSimpArgs false
namespace Go.Lf.G
open Go

theorem rPack13_ok {A : Amb} {h : Heap} {s : Sl} {l : List Ev} {R : Value → Heap → Prop} (v : View EvE h s l) (hl : l.length ≤ 1099511627776) (hd : ∀ e ∈ l, e.data.size ≤ 4194304) (H : ∀ h', Ext h h' → R (resPack l) h') : HCalls A P f_wherryref13_Pack #[.slice s.p s.len s.cap] h R := by
  refine ok_wherryref13_Pack ?_
  unfold F_wherryref13_Pack
  rw [v.len]
  refine PIf.intro (fun hq => ?_) (fun hq => ?_)
  · have h5 : 500 < l.length := by simp at hq; omega
    have := H h Mod.refl
    simp only [resPack, packEv, if_pos h5] at this
    exact this
  have h5 : ¬ 500 < l.length := by simp at hq; omega
  have hp : packEv l = if l.all evOK then (0, encEvs l) else (120, []) := by unfold packEv; rw [if_neg h5]
  have l0 := putV_len10 (n := l.length) (by omega)
  refine rInt_ok (by omega) fun h1 x1 => ⟨_, rfl, ?_⟩
  refine Loop.rule (fun m x hh => ∃ i : Nat, x = (strL (putV l.length ++ (l.take i).flatMap fun e => textL (encEv e)), (i : Int), ()) ∧ Ext h hh ∧ m = l.length - i ∧ i ≤ l.length ∧ (l.take i).all evOK = true) ?_
    ⟨0, by simp, x1, rfl, by omega, rfl⟩
  rintro K m _ hh ⟨i, rfl, xe, rfl, hi, hall⟩ hK
  refine PIf.intro (fun hq2 => ?_) (fun hq2 => ?_)
  · have hil : i < l.length := by simpa using hq2
    obtain ⟨e, he⟩ : ∃ e, l[i]? = some e := ⟨_, List.getElem?_eq_getElem hil⟩
    have hm := List.mem_of_getElem? he
    have hed := hd e hm
    rw [← v.len]
    refine (v.ext xe).idx he fun a _ c => ?_
    rw [v.len]
    obtain ⟨p0, p1, p2, p3, p4, p5, p6, p7⟩ := ev_at c
    refine LoadI.mk p0 (LoadI.mk p1 (LoadI.mk p2 (LoadI.mk p3 (LoadI.mk p4 (LoadI.mk p5 (LoadB.mk p6 (LoadS.mk p7 ?_)))))))
    refine rEncode13_ok (e := e) hed fun h4 x4 => ⟨_, _, rfl, ?_⟩
    have x04 := xe.trans x4
    cases hok : evOK e with
    | false =>
      refine PIf.yes rfl ?_
      have := H h4 x04
      rw [resPack, hp, if_neg] at this
      · exact this
      · intro hh; rw [List.all_eq_true] at hh; rw [hh e hm] at hok; cases hok
    | true =>
      refine PIf.no rfl ?_
      have h3 := encEv_len (evOK_head hok) (by omega)
      have h6 := putV_len10 (n := (encEv e).length) (by omega)
      have hfl := flat_le hall fun x hx => hd x (List.mem_of_mem_take hx)
      have htk : (l.take i).length ≤ 500 := by simp; omega
      have hmul : (l.take i).length * 5000000 ≤ 500 * 5000000 := Nat.mul_le_mul_right _ htk
      refine rText_ok (l := encEv e) (by omega) fun h7 x7 => ⟨_, rfl, ⟨?_, ?_⟩⟩
      · dsimp only
        have h9 : (textL (encEv e)).length = (putV (encEv e).length).length + (encEv e).length := by simp [textL]
        rw [strL_size, strL_size, max_i64, List.length_append]
        omega
      · dsimp only
        rw [wrap_succ (by omega), strL_app]
        refine hK (l.length - (i + 1)) _ _ (by omega) ⟨i + 1, ?_, x04.trans x7, rfl, hil, ?_⟩
        · rw [List.take_add_one, he, Option.toList_some, List.flatMap_append, List.append_assoc]
          simp
        · rw [List.take_add_one, he, Option.toList_some, List.all_append, hall]
          simpa using hok
  · have hil : i = l.length := by simp at hq2; omega
    rw [List.take_of_length_le (by omega)] at hall
    have := H hh xe
    rw [resPack, hp, if_pos hall] at this
    dsimp only
    rw [List.take_of_length_le (by omega)]
    exact this

/-- the document's file, or errno -/
theorem rPack20_ok {A : Amb} {h : Heap} {s : Sl} {l : List Ev} {w : ByteArray} {R : Value → Heap → Prop} (v : View EvE h s l) (hws : w.size ≤ 1099511627776) (hl : l.length ≤ 1099511627776) (hd : ∀ e ∈ l, e.data.size ≤ 4194304)
    (H : ∀ h' x, Ext h h' → (keepE w l = 0 → x = keepD l) → R (.tuple #[.string x, .int .i64 (keepE w l)]) h') : HCalls A P f_wherryref20_Pack #[.string w, .slice s.p s.len s.cap] h R := by
  refine ok_wherryref20_Pack ?_
  unfold F_wherryref20_Pack
  have hke : keepE w l = if nameOK w = true then (if (packEv l).1 ≠ 0 then ((packEv l).1 : Int) else if 1048576 < (packEv l).2.length then 2 else 0) else 1 := rfl
  have fail : ∀ h' x (n : Int), Ext h h' → keepE w l = n → n ≠ 0 → R (.tuple #[.string x, .int .i64 n]) h' := fun h' x n xe e hn => by
    have := H h' x xe (fun h0 => absurd (e ▸ h0) hn)
    rw [e] at this
    exact this
  refine rNamed_ok hws ⟨_, rfl, ?_⟩
  cases hn : nameOK w with
  | false =>
    rw [hn, if_neg (by decide)] at hke
    exact PIf.yes rfl (fail h _ 1 Mod.refl hke (by decide))
  | true =>
    rw [hn, if_pos rfl] at hke
    refine PIf.no rfl (rPack13_ok v hl hd fun h1 x1 => ⟨_, _, rfl, ?_⟩)
    refine PIf.intro (fun q => ?_) (fun q => ?_)
    · have q : (packEv l).1 ≠ 0 := by simp at q; omega
      rw [if_pos q] at hke
      exact fail h1 _ _ x1 hke (by omega)
    have q : ¬ (packEv l).1 ≠ 0 := by simp at q; omega
    rw [if_neg q] at hke
    refine rWrap_ok (pack_len hl hd) (fun h2 => ⟨_, _, rfl, ?_⟩) (fun h2 h3 x3 => ⟨_, _, rfl, ?_⟩)
    · rw [if_pos h2] at hke
      exact fail h1 _ 2 x1 hke (by decide)
    · rw [if_neg (by omega)] at hke
      have := H h3 (keepD l) (x1.trans x3) fun _ => rfl
      rw [hke] at this
      exact this
end Go.Lf.G

/-
  Contracts: the document's events back from bytes (chapter 13).
-/
set_option maxRecDepth 100000
set_option linter.unusedVariables false
set_option linter.unusedSimpArgs false
namespace Go.Lf.G
open Go

def wideB : EvB := ⟨1000, 100, 1125899906842624, 1000, 100, 100⟩
theorem wideB_wide : wideB.wide := by unfold EvB.wide wideB; decide
/-- one letter's field is read -/
def stepL (x : Ev × Rd) (c : UInt8) : Ev × Rd :=
  if c = 114 then ({ x.1 with ref := (intR 1000 x.2).1 }, (intR 1000 x.2).2)
  else if c = 115 then ({ x.1 with step := (intR 100 x.2).1 }, (intR 100 x.2).2)
  else if c = 116 then ({ x.1 with turn := (intR 100 x.2).1 }, (intR 100 x.2).2)
  else if c = 117 then ({ x.1 with undo := decide ((intR 1 x.2).1 = 1) }, (intR 1 x.2).2)
  else ({ x.1 with data := strL (textR x.2).1 }, (textR x.2).2)
theorem fold_gen (i k tk : Int) (t : Rd) : ((⟨i, k, tk, (optI (flR k) 1000 t).1, (optI (flS k) 100 (optI (flR k) 1000 t).2).1, (optI (flT k) 100 (optI (flS k) 100 (optI (flR k) 1000 t).2).2).1,
      decide ((optI (flU k) 1 (optI (flT k) 100 (optI (flS k) 100 (optI (flR k) 1000 t).2).2).2).1 = 1), strL (optX (flD k) (optI (flU k) 1 (optI (flT k) 100 (optI (flS k) 100 (optI (flR k) 1000 t).2).2).2).2).1⟩ : Ev),
      (optX (flD k) (optI (flU k) 1 (optI (flT k) 100 (optI (flS k) 100 (optI (flR k) 1000 t).2).2).2).2).2) = (ltrs k).foldl stepL (⟨i, k, tk, 0, 0, 0, false, bs0'⟩, t) := by
  have hx : flR k = true → flS k = false := fun h => by
    unfold flR at h; unfold flS
    have h := of_decide_eq_true h
    exact decide_eq_false (by omega)
  have hD : flD k = (decide (k = 1) || decide (k = 12)) := by unfold flD; rw [Bool.eq_iff_iff]; simp
  by_cases h1 : k = 1
  · subst h1; simp [ltrs, flR, flS, flT, flU, flD, optI, optX, stepL]
  · by_cases h2 : k = 12
    · subst h2; simp [ltrs, flR, flS, flT, flU, flD, optI, optX, stepL]
    · rw [decide_eq_false h1, decide_eq_false h2] at hD
      cases ha : flR k <;> cases hb : flS k <;> cases hc : flT k <;> cases hd : flU k <;>
        first | (rw [hx ha] at hb; cases hb; done) | simp [ltrs, ha, hb, hc, hd, hD, h1, h2, optI, optX, stepL, strL_nil]
theorem fold_rd (r : Rd) : rdEv wideB r = (ltrs ((intR 100 (intR 1000 r).2).1 : Int)).foldl stepL (⟨(intR 1000 r).1, (intR 100 (intR 1000 r).2).1, (intR 1125899906842624 (intR 100 (intR 1000 r).2).2).1, 0, 0, 0, false, bs0'⟩, (intR 1125899906842624 (intR 100 (intR 1000 r).2).2).2) :=
  fold_gen _ _ _ _
theorem step_fine {x : Ev × Rd} {c : UInt8} (h : x.2.Fine) : (stepL x c).2.Fine := by
  unfold stepL
  split
  · exact intR_fine h
  · split
    · exact intR_fine h
    · split
      · exact intR_fine h
      · split
        · exact intR_fine h
        · exact textR_fine h
theorem step_len {x : Ev × Rd} {c : UInt8} : (stepL x c).2.rest.length ≤ x.2.rest.length := by
  unfold stepL
  split
  · exact len_intR _ _
  · split
    · exact len_intR _ _
    · split
      · exact len_intR _ _
      · split
        · exact len_intR _ _
        · exact (len_textR _).1
end Go.Lf.G

/-
  Contracts: the document's event.Decode (chapter 13).
-/
set_option maxRecDepth 100000
set_option linter.unusedVariables false
set_option linter.unusedSimpArgs false
namespace Go.Lf.G
open Go

theorem ltrs_in (k : Int) : (if inI k 1 18 = true then ltrs k else []) = ltrs k := by
  by_cases h : 1 ≤ k ∧ k ≤ 18
  · rw [if_pos (inI_iff.2 h)]
  · rw [if_neg (fun hh => h (inI_iff.1 hh))]
    unfold ltrs flR flS flT flU
    rw [decide_eq_false (by omega), decide_eq_false (by omega), decide_eq_false (by omega), decide_eq_false (by omega), if_neg (show ¬ k = 1 by omega), if_neg (show ¬ k = 12 by omega)]
    rfl
structure DecV (h : Heap) (b rb b2 : Nat) (x : Ev × Rd) (hh : Heap) : Prop where
  ext : Ext h hh
  zero : hh[b]? = some (.cells (EvCells evZ) t_api_Event (0, 0))
  rd : RrAt hh rb x.2
  var : hh[b2]? = some (.cells (EvCells x.1) t_api_Event (0, 0))
  ne : h.size ≤ b ∧ h.size ≤ rb ∧ h.size ≤ b2 ∧ b ≠ rb ∧ b ≠ b2 ∧ rb ≠ b2
theorem DecV.both {h : Heap} {b rb b2 : Nat} {x : Ev × Rd} {hh h1 h2 : Heap} {e : Ev} {r : Rd} (D : DecV h b rb b2 x hh) (hr : RrAt h1 rb r) (m1 : Mod (· = rb) hh h1) (hb : h2[b2]? = some (.cells (EvCells e) t_api_Event (0, 0))) (m2 : Mod (· = b2) h1 h2) : DecV h b rb b2 (e, r) h2 :=
  ⟨(D.ext.more m1 fun c hc => by subst hc; exact D.ne.2.1).more m2 fun c hc => by subst hc; exact D.ne.2.2.1, m2.blk (m1.blk D.zero D.ne.2.2.2.1) D.ne.2.2.2.2.1, m2.blk hr D.ne.2.2.2.2.2, hb, D.ne⟩

theorem rDecode13_ok {A : Amb} {h : Heap} {l : List UInt8} {R : Value → Heap → Prop} (hl : l.length ≤ 4194304) (H : ∀ h', Ext h h' → R (resEv (decEv l)) h') : HCalls A P f_wherryref13_Decode #[.string (strL l)] h R := by
  refine ok_wherryref13_Decode ?_
  unfold F_wherryref13_Decode
  refine New.mk fun h1 _ hb x1 hs1 => New.mk fun h2 _ hr2 x2 hs2 => New.mk fun h3 _ hb3 x3 hs3 => ?_
  have D3 : DecV h h.size h1.size h2.size (evZ, ⟨l, false⟩) h3 :=
    ⟨(x1.trans x2).trans x3, x3.blk (x2.blk hb (fun h => h)) (fun h => h), x3.blk hr2 (fun h => h), hb3, by omega, by omega, by omega, by omega, by omega, by omega⟩
  have f0 : Rd.Fine ⟨l, false⟩ := fun h => by cases h
  have eW := decEv_wide wideB_wide (by unfold wideB; decide) (l := l) (by omega)
  rw [fold_rd] at eW
  have l1 := len_intR 1000 ⟨l, false⟩
  have l2 := len_intR 100 (intR 1000 ⟨l, false⟩).2
  have l3 := len_intR 1125899906842624 (intR 100 (intR 1000 ⟨l, false⟩).2).2
  have f1 := intR_fine (m := 1000) f0
  have f2 := intR_fine (m := 100) f1
  have f3 := intR_fine (m := 1125899906842624) f2
  refine rRInt_ok (most := 1000) D3.rd f0 (by simp only; omega) (by decide) fun h4 hr4 m4 => ⟨_, rfl, ?_⟩
  refine Store.mk (m4.blk D3.var D3.ne.2.2.2.2.2.symm) (by simp) fun h5 hb5 m5 hs5 => ?_
  have D5 := D3.both (e := { evZ with id := (intR 1000 ⟨l, false⟩).1 }) hr4 m4 hb5 m5
  refine rRInt_ok (most := 100) D5.rd f1 (by simp only; simp only at l1; omega) (by decide) fun h6 hr6 m6 => ⟨_, rfl, ?_⟩
  refine Store.mk1 (m6.blk D5.var D5.ne.2.2.2.2.2.symm) (by simp) fun h7 hb7 m7 hs7 => ?_
  have D7 := D5.both (e := { evZ with id := (intR 1000 ⟨l, false⟩).1, kind := (intR 100 (intR 1000 ⟨l, false⟩).2).1 }) hr6 m6 hb7 m7
  refine rRInt_ok (most := 1125899906842624) D7.rd f2 (by simp only; simp only at l1; omega) (by decide) fun h8 hr8 m8 => ⟨_, rfl, ?_⟩
  refine Store.mk1 (m8.blk D7.var D7.ne.2.2.2.2.2.symm) (by simp) fun h9 hb9 m9 hs9 => ?_
  have D9 := D7.both (e := ⟨(intR 1000 ⟨l, false⟩).1, (intR 100 (intR 1000 ⟨l, false⟩).2).1, (intR 1125899906842624 (intR 100 (intR 1000 ⟨l, false⟩).2).2).1, 0, 0, 0, false, bs0'⟩) hr8 m8 hb9 m9
  refine LoadI.mk (hget_lit1 D9.var rfl) (rfields_ok fun h10 x10 => ⟨_, _, rfl, ?_⟩)
  rw [ltrs_in, strL_size]
  have D10 : DecV h h.size h1.size h2.size (⟨(intR 1000 ⟨l, false⟩).1, (intR 100 (intR 1000 ⟨l, false⟩).2).1, (intR 1125899906842624 (intR 100 (intR 1000 ⟨l, false⟩).2).2).1, 0, 0, 0, false, bs0'⟩, (intR 1125899906842624 (intR 100 (intR 1000 ⟨l, false⟩).2).2).2) h10 :=
    ⟨D9.ext.trans x10, x10.blk D9.zero (fun h => h), x10.blk D9.rd (fun h => h), x10.blk D9.var (fun h => h), D9.ne⟩
  have hl3 : (intR 1125899906842624 (intR 100 (intR 1000 ⟨l, false⟩).2).2).2.rest.length ≤ l.length := by simp only at l1; omega
  generalize hx0 : ((⟨(intR 1000 ⟨l, false⟩).1, (intR 100 (intR 1000 ⟨l, false⟩).2).1, (intR 1125899906842624 (intR 100 (intR 1000 ⟨l, false⟩).2).2).1, 0, 0, 0, false, bs0'⟩, (intR 1125899906842624 (intR 100 (intR 1000 ⟨l, false⟩).2).2).2) : Ev × Rd) = x0 at *
  have ex2 : x0.2 = (intR 1125899906842624 (intR 100 (intR 1000 ⟨l, false⟩).2).2).2 := by rw [← hx0]
  have ed : x0.1.data.size = 0 := by rw [← hx0]; rfl
  have ek : x0.1.kind = ((intR 100 (intR 1000 ⟨l, false⟩).2).1 : Int) := by rw [← hx0]
  rw [← ex2] at hl3 f3
  generalize ((intR 100 (intR 1000 ⟨l, false⟩).2).1 : Int) = k at *
  simp only [ek]
  generalize h.size = b at *
  generalize h1.size = rb at *
  generalize h2.size = b2 at *
  refine Loop.rule (fun m y hh => ∃ (i : Nat) (x : Ev × Rd), y = ((i : Int), ()) ∧ x = ((ltrs k).take i).foldl stepL x0 ∧ DecV h b rb b2 x hh ∧ x.2.Fine ∧ x.2.rest.length ≤ l.length ∧ x.1.data.size ≤ l.length ∧ m = (ltrs k).length - i ∧ i ≤ (ltrs k).length) ?_ ⟨0, x0, rfl, rfl, D10, f3, hl3, by omega, rfl, by omega⟩
  rintro K m _ hh ⟨i, x, rfl, ex, D, hf, hlr, hds, rfl, hi⟩ hK
  refine PIf.intro (fun hq2 => ?_) (fun hq2 => ?_)
  · have hil : i < (ltrs k).length := by simpa using hq2
    obtain ⟨c, hc⟩ : ∃ c, (ltrs k)[i]? = some c := ⟨_, List.getElem?_eq_getElem hil⟩
    refine ⟨⟨by dsimp only; omega, by dsimp only; omega⟩, ?_⟩
    refine Join.mk fun K1 hK1 => ?_
    have fin : ∀ h', DecV h b rb b2 (stepL x c) h' → (stepL x c).1.data.size ≤ l.length → K1 () h' := fun h' D' hd' => by
      refine hK1 _ _ ?_
      have hl5 := ltrs_len k
      dsimp only
      rw [wrap_succ (by omega)]
      refine hK ((ltrs k).length - (i + 1)) _ _ (by omega) ⟨i + 1, stepL x c, rfl, ?_, D', step_fine hf, Nat.le_trans step_len hlr, hd', rfl, hil⟩
      rw [List.take_add_one, hc, Option.toList_some, List.foldl_append, ← ex]; rfl
    dsimp only
    rw [sAt_nat (c := c) (by rw [strL_list]; exact hc)]
    have hceq : ∀ n : Nat, n < 256 → (((c.toNat : Nat) : Int) == ((n : Nat) : Int)) = decide (c = byteN n) := fun n hn => by
      rw [Bool.eq_iff_iff, beq_iff_eq, decide_eq_true_eq]
      constructor
      · intro h; rw [← byteN_of c]; congr 1; omega
      · rintro rfl; rw [byteN_nat hn]
    have e114 := hceq 114 (by decide)
    have e115 := hceq 115 (by decide)
    have e116 := hceq 116 (by decide)
    have e117 := hceq 117 (by decide)
    rw [show (((114 : Nat) : Int)) = (114 : Int) from rfl, show byteN 114 = (114 : UInt8) from rfl] at e114
    rw [show (((115 : Nat) : Int)) = (115 : Int) from rfl, show byteN 115 = (115 : UInt8) from rfl] at e115
    rw [show (((116 : Nat) : Int)) = (116 : Int) from rfl, show byteN 116 = (116 : UInt8) from rfl] at e116
    rw [show (((117 : Nat) : Int)) = (117 : Int) from rfl, show byteN 117 = (117 : UInt8) from rfl] at e117
    rw [e114, e115, e116, e117]
    refine PIf.intro (fun q => ?_) (fun q1 => ?_)
    · have q : c = 114 := of_decide_eq_true q
      subst q
      refine rRInt_ok (most := 1000) D.rd hf (by omega) (by decide) fun h5 hr5 m5 => ⟨_, rfl, Store.mk1 (m5.blk D.var D.ne.2.2.2.2.2.symm) (by simp) fun h6 hb6 m6 hs6 => fin h6 (D.both (e := { x.1 with ref := (intR 1000 x.2).1 }) hr5 m5 hb6 m6) hds⟩
    have q1 : c ≠ 114 := of_decide_eq_false q1
    refine PIf.intro (fun q => ?_) (fun q2 => ?_)
    · have q : c = 115 := of_decide_eq_true q
      subst q
      refine rRInt_ok (most := 100) D.rd hf (by omega) (by decide) fun h5 hr5 m5 => ⟨_, rfl, Store.mk1 (m5.blk D.var D.ne.2.2.2.2.2.symm) (by simp) fun h6 hb6 m6 hs6 => fin h6 (D.both (e := { x.1 with step := (intR 100 x.2).1 }) hr5 m5 hb6 m6) hds⟩
    have q2 : c ≠ 115 := of_decide_eq_false q2
    refine PIf.intro (fun q => ?_) (fun q3 => ?_)
    · have q : c = 116 := of_decide_eq_true q
      subst q
      refine rRInt_ok (most := 100) D.rd hf (by omega) (by decide) fun h5 hr5 m5 => ⟨_, rfl, Store.mk1 (m5.blk D.var D.ne.2.2.2.2.2.symm) (by simp) fun h6 hb6 m6 hs6 => fin h6 (D.both (e := { x.1 with turn := (intR 100 x.2).1 }) hr5 m5 hb6 m6) hds⟩
    have q3 : c ≠ 116 := of_decide_eq_false q3
    refine PIf.intro (fun q => ?_) (fun q4 => ?_)
    · have q : c = 117 := of_decide_eq_true q
      subst q
      refine rRInt_ok (most := 1) D.rd hf (by omega) (by decide) fun h5 hr5 m5 => ⟨_, rfl, Store.mk1 (m5.blk D.var D.ne.2.2.2.2.2.symm) (by simp) fun h6 hb6 m6 hs6 => ?_⟩
      have e1 : ((((intR 1 x.2).1 : Nat) : Int) == (1 : Int)) = decide ((intR 1 x.2).1 = 1) := by
        rw [Bool.eq_iff_iff, beq_iff_eq, decide_eq_true_eq]; omega
      rw [e1] at hb6
      exact fin h6 (D.both (e := { x.1 with undo := decide ((intR 1 x.2).1 = 1) }) hr5 m5 hb6 m6) hds
    have q4 : c ≠ 117 := of_decide_eq_false q4
    have es : stepL x c = ({ x.1 with data := strL (textR x.2).1 }, (textR x.2).2) := by unfold stepL; rw [if_neg q1, if_neg q2, if_neg q3, if_neg q4]
    refine rRText_ok D.rd hf (by omega) fun h5 hr5 m5 => ⟨_, rfl, Store.mk1 (m5.blk D.var D.ne.2.2.2.2.2.symm) (by simp) fun h6 hb6 m6 hs6 => fin h6 ?_ ?_⟩
    · rw [es]; exact D.both (e := { x.1 with data := strL (textR x.2).1 }) hr5 m5 hb6 m6
    · rw [es]; simp only [strL_size]; have := (len_textR x.2).2; omega
  · have hil : i = (ltrs k).length := by simp at hq2; omega
    rw [List.take_of_length_le (by omega)] at ex
    rw [← ex] at eW
    refine LoadI.mk (hget_lit D.var rfl) (LoadI.mk (hget_lit1 D.var rfl) (LoadI.mk (hget_lit1 D.var rfl) (LoadI.mk (hget_lit1 D.var rfl) (LoadI.mk (hget_lit1 D.var rfl) (LoadI.mk (hget_lit1 D.var rfl) (LoadB.mk (hget_lit1 D.var rfl) (LoadS.mk (hget_lit1 D.var rfl) ?_)))))))
    refine rEncode13_ok (e := x.1) (by omega) fun h8 x8 => ⟨_, _, rfl, ?_⟩
    have D8 : DecV h b rb b2 x h8 := ⟨D.ext.trans x8, x8.blk D.zero (fun h => h), x8.blk D.rd (fun h => h), x8.blk D.var (fun h => h), D.ne⟩
    refine Join.mk fun K2 hK2 => ?_
    have bad : decEv l = none → K2 (true, ()) h8 := fun en => by
      refine hK2 _ _ (PIf.yes rfl ?_)
      refine Store.eight D8.zero fun h13 hb13 m13 hs13 => ?_
      refine LoadI.mk (hget_lit hb13 rfl) (LoadI.mk (hget_lit1 hb13 rfl) (LoadI.mk (hget_lit1 hb13 rfl) (LoadI.mk (hget_lit1 hb13 rfl) (LoadI.mk (hget_lit1 hb13 rfl) (LoadI.mk (hget_lit1 hb13 rfl) (LoadB.mk (hget_lit1 hb13 rfl) (LoadS.mk (hget_lit1 hb13 rfl) ?_)))))))
      have := H h13 (D8.ext.more m13 fun c hc => by subst hc; exact D8.ne.1)
      rw [en] at this
      exact this
    cases hok : evOK x.1 with
    | false =>
      refine PIf.yes rfl (bad ?_)
      rw [eW, if_neg]
      rintro ⟨q, _⟩
      rw [hok] at q; cases q
    | true =>
      refine PIf.no rfl (rREnd_ok D8.rd ⟨_, rfl, ?_⟩)
      refine PIf.intro (fun q => bad ?_) (fun q => ?_)
      · have q : endR x.2 = false := by simpa using q
        rw [eW, if_neg]
        rintro ⟨_, q2, _⟩
        rw [q] at q2; cases q2
      · have q : endR x.2 = true := by simpa using q
        simp only [if_true]
        rw [sEq_strL]
        by_cases he : encEv x.1 = l
        · rw [if_pos ⟨hok, q, he⟩] at eW
          rw [decide_eq_true he]
          refine hK2 _ _ (PIf.no rfl ?_)
          refine LoadI.mk (hget_lit D8.var rfl) (LoadI.mk (hget_lit1 D8.var rfl) (LoadI.mk (hget_lit1 D8.var rfl) (LoadI.mk (hget_lit1 D8.var rfl) (LoadI.mk (hget_lit1 D8.var rfl) (LoadI.mk (hget_lit1 D8.var rfl) (LoadB.mk (hget_lit1 D8.var rfl) (LoadS.mk (hget_lit1 D8.var rfl) ?_)))))))
          refine Store.eight D8.zero fun h13 hb13 m13 hs13 => ?_
          refine LoadI.mk (hget_lit hb13 rfl) (LoadI.mk (hget_lit1 hb13 rfl) (LoadI.mk (hget_lit1 hb13 rfl) (LoadI.mk (hget_lit1 hb13 rfl) (LoadI.mk (hget_lit1 hb13 rfl) (LoadI.mk (hget_lit1 hb13 rfl) (LoadB.mk (hget_lit1 hb13 rfl) (LoadS.mk (hget_lit1 hb13 rfl) ?_)))))))
          have := H h13 (D8.ext.more m13 fun c hc => by subst hc; exact D8.ne.1)
          rw [eW] at this
          exact this
        · rw [if_neg (fun hh => he hh.2.2)] at eW
          rw [decide_eq_false he]
          exact bad eW
end Go.Lf.G

/-
  Contracts: the document's histories back from bytes (chapter 13).
-/
set_option maxRecDepth 100000
set_option linter.unusedVariables false
set_option linter.unusedSimpArgs false
namespace Go.Lf.G
open Go

theorem rUnpack13_ok {A : Amb} {h : Heap} {l : List UInt8} {R : Value → Heap → Prop} (hl : l.length ≤ 4194304)
    (H0 : unpackEv l = none → ∀ h', Ext h h' → R (.tuple #[.slice none 0 0, .int .i64 60]) h')
    (H1 : ∀ es, unpackEv l = some es → ∀ h' s, Ext h h' → View EvE h' s es → es.length ≤ 500 → R (.tuple #[.slice s.p s.len s.cap, .int .i64 0]) h') : HCalls A P f_wherryref13_Unpack #[.string (strL l)] h R := by
  refine ok_wherryref13_Unpack ?_
  unfold F_wherryref13_Unpack
  refine New.mk fun h1 _ hr1 x1 hs1 => ?_
  have hr1 : RrAt h1 h.size ⟨l, false⟩ := hr1
  have f0 : Rd.Fine ⟨l, false⟩ := fun h => by cases h
  refine rRInt_ok (most := 500) hr1 f0 (by simp only; omega) (by decide) fun h2 hr2 m2 => ⟨_, rfl, ?_⟩
  have x02 : Ext h h2 := x1.more m2 fun c hc => by omega
  have hlen := len_intR 500 ⟨l, false⟩
  have f1 := intR_fine (m := 500) f0
  have hk : (intR 500 ⟨l, false⟩).1 ≤ 500 := by
    unfold intR
    split
    · exact Nat.zero_le _
    · split
      · exact Nat.zero_le _
      · omega
  have eU : unpackEv l = match rdEvs (intR 500 ⟨l, false⟩).1 (intR 500 ⟨l, false⟩).2 with | none => none | some (l', r) => if endR r then some l' else none := rfl
  generalize hn : (intR 500 ⟨l, false⟩).1 = n at *
  generalize hrb : h.size = rb at *
  refine Loop.rule (fun m x hh => ∃ (i : Nat) (s : Sl) (es : List Ev) (r : Rd), x = (s, (i : Int), ()) ∧ Ext h hh ∧ RrAt hh rb r ∧ r.Fine ∧ Own EvE t_api_Event hh s es ∧ (∀ c, s.blk = some c → h.size ≤ c ∧ c ≠ rb) ∧ m = n - i ∧ i ≤ n ∧ r.rest.length ≤ l.length ∧ es.length = i ∧
    unpackEv l = match rdEvs (n - i) r with | none => none | some (l', r') => if endR r' then some (es ++ l') else none) ?_ ⟨0, ⟨none, 0, 0⟩, [], (intR 500 ⟨l, false⟩).2, rfl, x02, hr2, f1, Own.nil, fun c hc => by simp [Sl.blk] at hc, rfl, by omega, hlen, rfl, eU⟩
  rintro K m _ hh ⟨i, s, es, r, rfl, xe, hr, hf, o, fr, rfl, hin, hlr, hes, eU⟩ hK
  refine PIf.intro (fun hq => ?_) (fun hq => ?_)
  · have hi : i < n := by simp at hq; omega
    obtain ⟨k', hk'⟩ : ∃ k', n - i = k' + 1 := ⟨n - i - 1, by omega⟩
    have hlt := len_textR r
    refine rRText_ok hr hf (by omega) fun h3 hr3 m3 => ⟨_, rfl, ?_⟩
    have x3 : Ext h h3 := xe.more m3 fun c hc => by omega
    have o3 := o.mod m3 fun c hc => (fr c hc).2
    refine rDecode13_ok (by omega) fun h4 x4 => ⟨_, _, _, _, _, _, _, _, _, rfl, ?_⟩
    have x04 := x3.trans x4
    have hr4 := x4.blk hr3 (fun h => h)
    have o4 := o3.ext x4
    refine New.mk fun h5 _ hb5 x5 hs5 => Store.eight hb5 fun h6 hb6 m6 hs6 => ?_
    have hsz := x04.size
    have x06 : Ext h h6 := (x04.trans x5).more m6 fun c hc => by omega
    have hr6 := m6.blk (x5.blk hr4 (fun h => h)) (by have := blk_lt hr4; omega)
    have o6 := (o4.ext x5).mod m6 fun c hc e => by have := o4.lt hc; omega
    have er : rdEvs (n - i) r = match decEv (textR r).1 with | none => none | some e => match rdEvs k' (textR r).2 with | none => none | some (l, r') => some (e :: l, r') := by rw [hk']; rfl
    rw [er] at eU
    cases hd : decEv (textR r).1 with
    | none =>
      rw [hd] at eU
      exact PIf.yes rfl (H0 eU h6 x06)
    | some e =>
      rw [hd] at eU hb6
      refine PIf.no rfl ?_
      refine LoadI.mk (hget_lit hb6 rfl) (LoadI.mk (hget_lit1 hb6 rfl) (LoadI.mk (hget_lit1 hb6 rfl) (LoadI.mk (hget_lit1 hb6 rfl) (LoadI.mk (hget_lit1 hb6 rfl) (LoadI.mk (hget_lit1 hb6 rfl) (LoadB.mk (hget_lit1 hb6 rfl) (LoadS.mk (hget_lit1 hb6 rfl) ?_)))))))
      refine New.append1 (E := EvE) (x := e) (s := s) (l := es) rfl app_ev o6 (by omega) (by simp [maxLen]; omega) fun s' h' o' m' hb' hn' => ?_
      have hsr : s.blk ≠ some rb := fun hc => (fr _ hc).2 rfl
      dsimp only
      rw [wrap_succ (by omega)]
      refine hK (n - (i + 1)) _ _ (by omega) ⟨i + 1, s', es ++ [e], (textR r).2, rfl, x06.more m' fun c hc => (fr c hc).1, m'.blk hr6 hsr, textR_fine hf, o', fun c hc => ?_, rfl, hi, by omega, by simp [hes], ?_⟩
      · rcases hb' c hc with h1 | h1
        · exact fr c h1
        · have q := blk_lt hr6
          have q2 := x06.size
          omega
      · rw [eU, show n - (i + 1) = k' by omega]
        cases hrk : rdEvs k' (textR r).2 with
        | none => rfl
        | some p => obtain ⟨l', r'⟩ := p; simp
  · have hin' : i = n := by simp at hq; omega
    rw [show n - i = 0 by omega] at eU
    simp only [rdEvs, List.append_nil] at eU
    refine rREnd_ok hr ⟨_, rfl, ?_⟩
    refine PIf.intro (fun q => ?_) (fun q => ?_)
    · have q : endR r = false := by simpa using q
      exact H0 (by rw [eU, q]; rfl) hh xe
    · have q : endR r = true := by simpa using q
      exact H1 es (by rw [eU, q]; rfl) hh s xe o.view (by omega)
end Go.Lf.G

/-
  Contracts: the document's history of a file's bytes (chapter 20).
-/
set_option maxRecDepth 100000
set_option linter.unusedVariables false
set_option linter.unusedSimpArgs false
namespace Go.Lf.G
open Go

/-- errno, and the history of a file's bytes -/
def unpA (s : ByteArray) : Int × List Ev :=
  if (nextL (bl s)).1 ≠ 0 then ((nextL (bl s)).1, [])
  else if (nextL (bl s)).2.2 ≠ [] then (60, [])
  else match unpackEv (nextL (bl s)).2.1 with | none => (60, []) | some l => (0, l)
theorem readA_unp {m : Bx} {w s : ByteArray} (hn : nameOK w = true) (hr : readB m (zn w) = (s, 0)) : readA m w = unpA s := by
  unfold readA unpA
  rw [if_pos hn, hr]
  simp only [ne_eq, not_true_eq_false, if_false]
  rfl
theorem rNext_ok' {A : Amb} {h : Heap} {s : ByteArray} {R : Value → Heap → Prop} (hl : s.size ≤ 1099511627776)
    (H : ∀ h', Ext h h' → R (.tuple #[.string (strL (nextL (bl s)).2.1), .string (strL (nextL (bl s)).2.2), .int .i64 ((nextL (bl s)).1 : Int)]) h') : HCalls A P f_wherryref02_Next #[.string s] h R := by
  have := rNext_ok (A := A) (h := h) (l := bl s) (R := R) (by rw [bl_size]; exact hl) H
  rwa [strL_bl] at this
theorem rUnpack20_ok {A : Amb} {h : Heap} {s : ByteArray} {R : Value → Heap → Prop} (hs : s.size ≤ 4194304)
    (H : ∀ h' sl, Ext h h' → View EvE h' sl (unpA s).2 → R (.tuple #[.slice sl.p sl.len sl.cap, .int .i64 (unpA s).1]) h') : HCalls A P f_wherryref20_Unpack #[.string s] h R := by
  refine ok_wherryref20_Unpack ?_
  unfold F_wherryref20_Unpack
  have none_ok : ∀ h' (n : Int), Ext h h' → unpA s = (n, []) → R (.tuple #[.slice none 0 0, .int .i64 n]) h' := fun h' n x e => by
    have := H h' ⟨none, 0, 0⟩ x (by rw [e]; exact View.nil)
    rw [e] at this
    exact this
  have hr : unpA s = if (nextL (bl s)).1 ≠ 0 then (((nextL (bl s)).1 : Int), []) else if (nextL (bl s)).2.2 ≠ [] then (60, []) else match unpackEv (nextL (bl s)).2.1 with | none => (60, []) | some l => (0, l) := rfl
  refine rNext_ok' (by omega) fun h1 x1 => ⟨_, _, _, rfl, ?_⟩
  refine PIf.intro (fun q => ?_) (fun q => ?_)
  · have q : (nextL (bl s)).1 ≠ 0 := by simp at q; omega
    rw [if_pos q] at hr
    exact none_ok h1 _ x1 hr
  have q : ¬ (nextL (bl s)).1 ≠ 0 := by simp at q; omega
  rw [if_neg q] at hr
  rw [bs_eq]
  have hrest : decide (strL (nextL (bl s)).2.2 = bs0') = decide ((nextL (bl s)).2.2 = []) := by
    rw [decide_eq_decide]; exact strL_inj (b := [])
  rw [hrest]
  refine PIf.intro (fun q => ?_) (fun q => ?_)
  · have q : (nextL (bl s)).2.2 ≠ [] := by simpa using q
    rw [if_pos q] at hr
    exact none_ok h1 _ x1 hr
  have q : ¬ (nextL (bl s)).2.2 ≠ [] := by simpa using q
  rw [if_neg q] at hr
  have hnl := next_len (bl s)
  rw [bl_size] at hnl
  refine rUnpack13_ok (by omega) (fun hu h2 x2 => ⟨⟨none, 0, 0⟩, _, rfl, ?_⟩) (fun es hu h2 sl x2 v hl => ⟨sl, _, rfl, ?_⟩)
  · rw [hu] at hr
    exact none_ok h2 _ (x1.trans x2) hr
  · rw [hu] at hr
    have := H h2 sl (x1.trans x2) (by rw [hr]; exact v)
    rw [hr] at this
    exact this
end Go.Lf.G

/-
  The law ArchiveKeeps (chapter 20) over its formula.
-/
set_option maxRecDepth 100000
set_option linter.unusedVariables false
set_option linter.unusedSimpArgs false
namespace Go.Lf.G
open Go

theorem aKeep_any {A : Amb} {h : Heap} {ab b : Nat} {S : Nat → Prop} {m : Bx} {w : ByteArray} {s : Sl} {l : List Ev} {T : TypeId} {R : Value → Heap → Prop} (ha : h[ab]? = some (.cells #[ptrV b] T (0, 0))) (B : IsBox h b S m) (c : Calm m) (hS : ¬ S ab)
    (hw : wtF m.files + 2000000 < 1099511627776) (hws : w.size ≤ 1099511627776) (v : View EvE h s l) (vs : ∀ h', Mod S h h' → View EvE h' s l) (hl : l.length ≤ 1099511627776) (hd : ∀ e ∈ l, e.data.size ≤ 4194304)
    (H : ∀ h' S' m', IsBox h' b S' m' → Calm m' → Mod S h h' → (∀ c, S' c → S c ∨ h.size ≤ c) → wtF m'.files ≤ wtF m.files + 2000000 → (keepE w l = 0 → fileB m' (zn w) = some (keepD l)) → R (.int .i64 (keepE w l)) h') :
    HCalls A P f_archive_Archive_Keep #[ptrV ab, .string w, .slice s.p s.len s.cap] h R := by
  refine aKeep_ok ha B c hS hw hws v vs hl hd (fun hne h' x => H h' S m (B.ext x) c (Ext.mod x) (fun c hc => .inl hc) (Nat.le_add_right _ _) fun h0 => absurd h0 hne) fun h0 h' S' m' B' c' md s' f' w' => ?_
  have := H h' S' m' B' c' md s' w' fun _ => by rw [f', if_pos rfl]
  rw [h0] at this
  exact this

structure Ar1 (h : Heap) (ab b : Nat) (hh : Heap) (S : Nat → Prop) (m : Bx) (n : Nat) : Prop where
  box : IsBox hh b S m
  calm : Calm m
  arc : hh[ab]? = some (.cells #[ptrV b] t_archive_Archive (0, 0))
  ext : Ext h hh
  fresh : ∀ c, S c → h.size ≤ c ∧ c ≠ ab
  wt : wtF m.files ≤ n
theorem Ar1.on {h : Heap} {ab b : Nat} {hh h2 : Heap} {S : Nat → Prop} {m : Bx} {n : Nat} (a : Ar1 h ab b hh S m n) (x : Ext hh h2) : Ar1 h ab b h2 S m n :=
  ⟨a.box.ext x, a.calm, x.blk a.arc (fun h => h), a.ext.trans x, a.fresh, a.wt⟩
theorem Ar1.upd {h : Heap} {ab b : Nat} {hh h2 : Heap} {S S2 : Nat → Prop} {m m2 : Bx} {n n2 : Nat} (a : Ar1 h ab b hh S m n) (B : IsBox h2 b S2 m2) (c : Calm m2) (md : Mod S hh h2) (hs : ∀ c, S2 c → S c ∨ hh.size ≤ c) (hw : wtF m2.files ≤ n2) : Ar1 h ab b h2 S2 m2 n2 := by
  refine ⟨B, c, md.blk a.arc fun hs => (a.fresh _ hs).2 rfl, a.ext.more md fun c hc => (a.fresh c hc).1, fun c hc => ?_, hw⟩
  have h1 := blk_lt a.arc
  have h2 := a.ext.size
  rcases hs c hc with h | h
  · exact a.fresh c h
  · exact ⟨by omega, by omega⟩

theorem ArchiveKeeps_ok {A : Amb} {h : Heap} {sl : Sl} {w s : ByteArray} {l : List Ev} {R : Value → Heap → Prop} (v : View EvE h sl l) (hw : w.size ≤ 4194304) (hs : s.size ≤ 4194304) (hl : l.length ≤ 1099511627776) (hd : ∀ e ∈ l, e.data.size ≤ 4194304)
    (H : ∀ h', Ext h h' → R (.bool true) h') : HCalls A P f_wherrylaw20_ArchiveKeeps #[.string w, .slice sl.p sl.len sl.cap, .string s] h R := by
  refine ok_wherrylaw20_ArchiveKeeps ?_
  unfold F_wherrylaw20_ArchiveKeeps
  refine awake20_ok fun h1 x1 => ⟨_, rfl, PIf.no rfl ?_⟩
  refine bNew_ok fun b h2 S B x2 hS => ⟨_, rfl, ?_⟩
  refine aNew_ok fun h3 ha x3 hs3 => ⟨_, rfl, ?_⟩
  have hx1 := x1.size
  have hx2 := x2.size
  have hws : w.size ≤ 1099511627776 := by omega
  have A0 : Ar1 h h2.size b h3 S newB 0 := ⟨B.ext x3, calm_new, ha, (x1.trans x2).trans x3, fun c hc => by have := B.lt hc; have := hS c hc; omega, by simp [newB, wtF]⟩
  generalize h2.size = ab at *
  clear ha B hS hs3 hx2 hx1
  have A0w := A0.wt
  refine aKeep_any A0.arc A0.box A0.calm (fun hc => (A0.fresh _ hc).2 rfl) (by omega) hws (v.ext A0.ext) (fun h' md => v.ext (A0.ext.more md fun c hc => (A0.fresh c hc).1)) hl hd fun h4 S4 m4 B4 c4 md4 s4 w4 f4 => ⟨_, rfl, ?_⟩
  have A4 : Ar1 h ab b h4 S4 m4 2000000 := A0.upd B4 c4 md4 s4 (by omega)
  refine rPack20_ok (v.ext A4.ext) hws hl hd fun h5 str x5 hstr => ⟨_, _, rfl, ?_⟩
  have A5 := A4.on x5
  refine PIf.no (by simp) (Join.mk fun K hK => ?_)
  have go : ∀ S m hh, Ar1 h ab b hh S m 4000000 → K () hh := fun S m hh a => by
    refine hK _ _ ?_
    refine rNamed_ok hws ⟨_, rfl, ?_⟩
    have hwt := a.wt
    cases hn : nameOK w with
    | false =>
      refine PIf.yes rfl (aEvents_ok a.arc a.box (by omega) hws fun h8 s8 x8 v8 l8 => ⟨s8, _, rfl, ?_⟩)
      have hr : readA m w = (1, []) := by unfold readA; rw [hn, if_neg (by decide)]
      rw [hr]
      exact H h8 (a.ext.trans x8)
    | true =>
      refine PIf.no rfl (aFile_ok hws ⟨_, rfl, ?_⟩)
      obtain ⟨d1, d2, d3⟩ := calm_delete a.calm (zn w)
      refine bDelete_ok a.box fun h10 S10 B10 m10 s10 => ⟨_, rfl, ?_⟩
      have hw10 := wt_delete (m := m) (zn w)
      have a10 : Ar1 h ab b h10 S10 (deleteB m (zn w)).2 4000000 := a.upd B10 d2 m10 (fun c hc => .inl (s10 c hc)) (Nat.le_trans hw10 hwt)
      refine aFile_ok hws ⟨_, rfl, ?_⟩
      obtain ⟨p1, p2, p3⟩ := calm_append d2 (k := zn w) (d := s) (zn_good hn)
      have hw10' := a10.wt
      refine bAppend_ok a10.box (by omega) fun h12 S12 B12 m12 s12 => ⟨_, rfl, ?_⟩
      have hw12 := wt_append a10.box.good (zn w) s
      have a12 : Ar1 h ab b h12 S12 (appendB (deleteB m (zn w)).2 (zn w) s).2 9000000 := a10.upd B12 p2 m12 s12 (by omega)
      have hw12' := a12.wt
      refine aEvents_ok a12.arc a12.box (by omega) hws fun h13 s13 x13 v13 l13 => ⟨s13, _, rfl, ?_⟩
      have hread : readA (appendB (deleteB m (zn w)).2 (zn w) s).2 w = unpA s := readA_unp hn (by
        rw [calm_read p2, p3, if_pos rfl, d3, if_pos rfl]; simp [nil_app])
      rw [hread] at v13 l13 ⊢
      refine rUnpack20_ok hs fun h14 s14 x14 v14 => ⟨s14, _, rfl, ?_⟩
      refine PIf.yes (by simp) (rSame13_ok (v13.ext x14) v14 (by omega) ⟨_, rfl, ?_⟩)
      rw [decide_eq_true rfl]
      exact H h14 ((a12.ext.trans x13).trans x14)
  refine PIf.intro (fun q => ?_) (fun q => go S4 m4 h5 ?_)
  · have h0 : keepE w l = 0 := by simpa using q
    have hwt := A5.wt
    have hst := hstr h0
    subst hst
    have hfile := f4 h0
    have hrd : readB m4 (zn w) = (keepD l, 0) := by rw [calm_read c4, hfile]
    have hread : readA m4 w = (0, l) := read_kept c4 h0 hd hfile
    refine aFile_ok hws ⟨_, rfl, ?_⟩
    refine bRead_ok A5.box ⟨_, _, rfl, ?_⟩
    rw [hrd]
    refine aEvents_ok A5.arc A5.box (by omega) hws fun h18 s18 x18 v18 l18 => ⟨s18, _, rfl, ?_⟩
    rw [hread] at v18 ⊢
    refine Join.mk fun K1 hK1 => PIf.no rfl (PIf.no rfl (PIf.no ?_ ?_))
    · have : sEq (keepD l) (keepD l) = true := by rw [sEq_iff]; exact decide_eq_true rfl
      dsimp only
      rw [this]; rfl
    have A18 := A5.on x18
    refine rSame13_ok v18 (v.ext A18.ext) hl ⟨_, rfl, ?_⟩
    rw [decide_eq_true rfl]
    refine PIf.no rfl ?_
    refine aKeep_any A18.arc A18.box A18.calm (fun hc => (A18.fresh _ hc).2 rfl) (by omega) hws (v.ext A18.ext) (fun h' md => v.ext (A18.ext.more md fun c hc => (A18.fresh c hc).1)) hl hd fun h21 S21 m21 B21 c21 md21 s21 w21 f21 => ⟨_, rfl, ?_⟩
    rw [h0]
    refine hK1 _ _ (PIf.no rfl ?_)
    exact go S21 m21 h21 (A18.upd B21 c21 md21 s21 (by omega))
  · exact ⟨A5.box, A5.calm, A5.arc, A5.ext, A5.fresh, Nat.le_trans A5.wt (by omega)⟩
end Go.Lf.G

