/-
  Contracts: events (chapter 13).
-/
import Derived.Test.YtcaiammecilkeaaLfW2ToV3
import Derived.Test.YtcaiammecilkeaaLfU11ToU3
set_option maxRecDepth 100000
set_option linter.unusedVariables false
set_option linter.unusedSimpArgs false
namespace Go.Lf.G
open Go

def fN (k : Int) : Int := (if flR k then 1 else 0) + (if flS k then 2 else 0) + (if flT k then 4 else 0) + (if flU k then 8 else 0) + (if flD k then 16 else 0)
theorem fN_bit (k : Int) : bAnd .i64 (fN k) 1 = (if flR k then 1 else 0) ∧ bAnd .i64 (fN k) 2 = (if flS k then 2 else 0) ∧ bAnd .i64 (fN k) 4 = (if flT k then 4 else 0) ∧ bAnd .i64 (fN k) 8 = (if flU k then 8 else 0) ∧ bAnd .i64 (fN k) 16 = (if flD k then 16 else 0) := by
  unfold fN
  generalize flR k = a
  generalize flS k = b
  generalize flT k = c
  generalize flU k = d
  generalize flD k = e
  cases a <;> cases b <;> cases c <;> cases d <;> cases e <;> decide
theorem nz_ite {b : Bool} {n : Int} (hn : n ≠ 0) : ((if b then n else 0) == (0 : Int)) = !b := by cases b <;> simp [hn]
theorem nz_ite' {b : Bool} {n : Int} (hn : n ≠ 0) : ((if b then n else 0) != (0 : Int)) = b := by cases b <;> simp [hn]
theorem efields_ok {A : Amb} {h : Heap} {k : Int} {R : Value → Heap → Prop} (H : R (.tuple #[.int .i64 (fN k), .bool (inI k 1 18)]) h) : HCalls A P f_event_fields #[.int .i64 k] h R := by
  refine ok_event_fields ?_
  unfold F_event_fields
  have hk : k = 1 ∨ k = 2 ∨ k = 3 ∨ k = 4 ∨ k = 5 ∨ k = 6 ∨ k = 7 ∨ k = 8 ∨ k = 9 ∨ k = 10 ∨ k = 11 ∨ k = 12 ∨ k = 13 ∨ k = 14 ∨ k = 15 ∨ k = 16 ∨ k = 17 ∨ k = 18 ∨ ¬ (1 ≤ k ∧ k ≤ 18) := by omega
  by_cases hin : 1 ≤ k ∧ k ≤ 18
  · rcases hk with rfl | rfl | rfl | rfl | rfl | rfl | rfl | rfl | rfl | rfl | rfl | rfl | rfl | rfl | rfl | rfl | rfl | rfl | hk
    all_goals (try exact absurd hin hk)
    all_goals repeat first | exact H | (refine Join.mk fun K hK => ?_) | (refine PIf.yes (by decide) ?_) | (refine PIf.no (by decide) ?_) | (refine hK _ _ ?_)
  · have e1 : inI k 1 18 = false := by unfold inI; simpa using hin
    have e2 : fN k = 0 := by
      unfold fN flR flS flT flU flD
      rw [decide_eq_false (by omega), decide_eq_false (by omega), decide_eq_false (by omega), decide_eq_false (by omega), decide_eq_false (by omega)]
      rfl
    rw [e1, e2] at H
    have ne : ∀ n : Int, 1 ≤ n → n ≤ 18 → (k == n) = false := fun n h1 h2 => by
      rw [beq_eq_false_iff_ne]; omega
    repeat first | exact H | (refine Join.mk fun K hK => ?_) | (refine PIf.no (ne _ (by decide) (by decide)) ?_) | (refine hK _ _ ?_)

theorem strL_bl (s : ByteArray) : strL (bl s) = s := strL_of s
theorem pDecode_ok' {A : Amb} {h : Heap} {s : ByteArray} {R : Value → Heap → Prop} (hl : s.size < 1099511627776)
    (H : ∀ h' sl, Ext h h' → (∀ p, decPrg (bl s) = some p → View StpE h' sl p.steps) → R (resPrg (decPrg (bl s)) sl) h') : HCalls A P f_prog_Decode #[.string s] h R := by
  have := pDecode_ok (A := A) (h := h) (l := bl s) (R := R) (by rw [bl_size]; exact hl) H
  rwa [strL_bl] at this
theorem vText_ok' {A : Amb} {h : Heap} {s : ByteArray} {R : Value → Heap → Prop} (hl : s.size ≤ 1099511627776) (H : ∀ h', Ext h h' → R (.string (strL (textL (bl s)))) h') : HCalls A P f_vary_Text #[.string s] h R := by
  have := vText_ok (A := A) (h := h) (l := bl s) (R := R) (by rw [bl_size]; exact hl) H
  rwa [strL_bl] at this

theorem chk1_ok {A : Amb} {h : Heap} {b : Nat} {f n lo hi bit : Int} {fl : Bool} {T : TypeId} {fr : Nat × Nat} {R : Value → Heap → Prop} (hb : h[b]? = some (.cells #[.int .i64 f] T fr)) (hbit : (bAnd .i64 f bit == (0 : Int)) = !fl)
    (H : R (.bool (inE fl n lo hi)) h) : CallV A P (.func (.func f_event_Check_1) #[] #[.pointer (some ⟨b, 0, none⟩)]) #[.int .i64 n, .int .i64 lo, .int .i64 hi, .int .i64 bit] h R := by
  refine CallV.func (first := #[]) (caps := #[ptrV b]) (by kernel_rfl) ?_
  refine ok_event_Check_1 ?_
  unfold F_event_Check_1
  refine atI (LoadI.mk (hget_lit hb rfl) ?_)
  rw [hbit]
  cases fl with
  | false =>
    refine PIf.yes rfl ?_
    have e : (n == (0 : Int)) = decide (n = 0) := by by_cases hn : n = 0 <;> simp [hn]
    rw [e]; exact H
  | true =>
    refine PIf.no rfl ?_
    refine PIf.intro (fun hq => ?_) (fun hq => ?_)
    · have e : inE true n lo hi = decide (n ≤ hi) := by simp at hq; simp only [inE, if_true, inI]; rw [decide_eq_decide]; omega
      rw [e] at H; exact H
    · have e : inE true n lo hi = false := by simp at hq; simp only [inE, if_true, inI]; simp; omega
      rw [e] at H; exact H

abbrev evA (e : Ev) : Value := .agg #[.int .i64 e.id, .int .i64 e.kind, .int .i64 e.tick, .int .i64 e.ref, .int .i64 e.step, .int .i64 e.turn, .bool e.undo, .string e.data]
abbrev EvCells (e : Ev) : Array Value := #[.int .i64 e.id, .int .i64 e.kind, .int .i64 e.tick, .int .i64 e.ref, .int .i64 e.step, .int .i64 e.turn, .bool e.undo, .string e.data]
theorem eCheck_ok {A : Amb} {h : Heap} {e : Ev} {R : Value → Heap → Prop} (hd : e.data.size < 1099511627776) (H : ∀ h', Ext h h' → R (.int .i64 (if evOK e then 0 else 120)) h') : HCalls A P f_event_Check #[evA e] h R := by
  refine ok_event_Check ?_
  unfold F_event_Check
  refine New.mk fun h1 _ hb x1 hs1 => ?_
  refine LoadI.mk (hget_lit1 hb rfl) (efields_ok ⟨_, _, rfl, ?_⟩)
  refine New.mk fun h2 _ hb2 x2 hs2 => ?_
  refine Store.mk hb2 (by simp) fun h4 hf m4 hs4 => ?_
  have x4 : Ext h h4 := (x1.trans x2).more m4 fun c hc => by subst hc; exact x1.size
  have hne : h.size ≠ h1.size := by omega
  have hb4 := m4.blk (x2.blk hb (fun h => h)) hne
  have hf : h4[h1.size]? = some (.cells #[.int .i64 (fN e.kind)] t_int (0, 0)) := hf
  obtain ⟨n1, n2, n3, n4, n5⟩ := fN_bit e.kind
  refine Join.mk fun K hK => ?_
  have bad : evHead e = false → K (true, ()) h4 := fun hh => by
    refine hK _ _ (PIf.yes rfl ?_)
    have := H h4 x4
    have e1 : evOK e = false := by simp [evOK, hh]
    rw [e1] at this
    exact this
  have good : evHead e = true → K (false, ()) h4 := fun hh => by
    refine hK _ _ (PIf.no rfl ?_)
    refine LoadI.mk (hget_lit1 hb4 rfl) ?_
    refine Join.mk fun K1 hK1 => ?_
    have fin : evTail e = true → ∀ h', Ext h h' → K1 () h' := fun ht h' x => by
      refine hK1 _ _ ?_
      have := H h' x
      have e1 : evOK e = true := by simp [evOK, hh, ht]
      rw [e1] at this
      exact this
    have fail : evTail e = false → ∀ h', Ext h h' → R (.int .i64 120) h' := fun ht h' x => by
      have := H h' x
      have e1 : evOK e = false := by simp [evOK, ht]
      rw [e1] at this
      exact this
    refine PIf.intro (fun hk => ?_) (fun hk => ?_)
    · have hk : e.kind = 1 := by simpa using hk
      have et : evTail e = (decPrg (bl e.data)).isSome := by unfold evTail; rw [if_pos hk]
      refine LoadS.mk (hget_lit1 hb4 rfl) (pDecode_ok' hd fun h5 sl x5 _ => ?_)
      have x05 := x4.trans x5
      cases hp : decPrg (bl e.data) with
      | none =>
        refine ⟨⟨none, 0, 0⟩, _, _, rfl, ?_⟩
        refine New.mk fun h6 _ hb6 x6 hs6 => Store.two hb6 fun h7 hb7 m7 hs7 => PIf.yes rfl ?_
        exact fail (by rw [et, hp]; rfl) h7 ((x05.trans x6).more m7 fun c hc => by subst hc; exact x05.size)
      | some p =>
        refine ⟨sl, _, _, rfl, ?_⟩
        refine New.mk fun h6 _ hb6 x6 hs6 => Store.two hb6 fun h7 hb7 m7 hs7 => PIf.no rfl ?_
        exact fin (by rw [et, hp]; rfl) h7 ((x05.trans x6).more m7 fun c hc => by subst hc; exact x05.size)
    · have hk : e.kind ≠ 1 := by simpa using hk
      refine PIf.intro (fun hk2 => ?_) (fun hk2 => ?_)
      · have hk2 : e.kind = 12 := by simpa using hk2
        have et : evTail e = nameOK e.data := by unfold evTail; rw [if_neg hk, if_pos hk2]
        refine LoadS.mk (hget_lit1 hb4 rfl) (pNamed_ok ⟨_, rfl, ?_⟩)
        cases hn : nameOK e.data with
        | false => exact fail (by rw [et, hn]) h4 x4
        | true => exact fin (by rw [et, hn]) h4 x4
      · have hk2 : e.kind ≠ 12 := by simpa using hk2
        have et : evTail e = true := by unfold evTail; rw [if_neg hk, if_neg hk2]
        exact fin et h4 x4
  refine PIf.intro (fun q => bad (by simp at q; simp [evHead, q])) (fun q1 => ?_)
  refine LoadI.mk (hget_lit hb4 rfl) (PIf.intro (fun q => bad ?_) (fun q2 => ?_))
  · have : inI e.id 1 500 = false := by simp at q; unfold inI; simp; omega
    simp [evHead, this]
  refine LoadI.mk (hget_lit hb4 rfl) (PIf.intro (fun q => bad ?_) (fun q3 => ?_))
  · have : inI e.id 1 500 = false := by simp at q; unfold inI; simp; omega
    simp [evHead, this]
  have i1 : 1 ≤ e.id ∧ e.id ≤ 500 := by simp at q2 q3; omega
  refine LoadI.mk (hget_lit1 hb4 rfl) (PIf.intro (fun q => bad ?_) (fun q4 => ?_))
  · have : inI e.tick 0 1099511627776 = false := by simp at q; unfold inI; simp; omega
    simp [evHead, this]
  refine LoadI.mk (hget_lit1 hb4 rfl) (PIf.intro (fun q => bad ?_) (fun q5 => ?_))
  · have : inI e.tick 0 1099511627776 = false := by simp at q; unfold inI; simp; omega
    simp [evHead, this]
  have i2 : inI e.tick 0 1099511627776 = true := by simp at q4 q5; rw [inI_iff]; omega
  have i1' : inI e.id 1 500 = true := inI_iff.2 i1
  have i0 : inI e.kind 1 18 = true := by simpa using q1
  refine LoadI.mk (hget_lit1 hb4 rfl) (LoadI.mk (hget_lit hb4 rfl) ?_)
  rw [wrap_i64 (n := e.id - 1) (by omega) (by omega)]
  refine chk1_ok (fl := flR e.kind) hf (by rw [n1, nz_ite (by decide)]) ⟨_, rfl, ?_⟩
  refine PIf.intro (fun q => bad ?_) (fun q6 => ?_)
  · have : inE (flR e.kind) e.ref 1 (e.id - 1) = false := by simpa using q
    simp [evHead, this]
  have i3 : inE (flR e.kind) e.ref 1 (e.id - 1) = true := by simpa using q6
  refine LoadI.mk (hget_lit1 hb4 rfl) ?_
  refine chk1_ok (fl := flS e.kind) hf (by rw [n2, nz_ite (by decide)]) ⟨_, rfl, ?_⟩
  refine PIf.intro (fun q => bad ?_) (fun q7 => ?_)
  · have : inE (flS e.kind) e.step 0 15 = false := by simpa using q
    simp [evHead, this]
  have i4 : inE (flS e.kind) e.step 0 15 = true := by simpa using q7
  refine LoadI.mk (hget_lit1 hb4 rfl) ?_
  refine chk1_ok (fl := flT e.kind) hf (by rw [n3, nz_ite (by decide)]) ⟨_, rfl, ?_⟩
  refine PIf.intro (fun q => bad ?_) (fun q8 => ?_)
  · have : inE (flT e.kind) e.turn 1 5 = false := by simpa using q
    simp [evHead, this]
  have i5 : inE (flT e.kind) e.turn 1 5 = true := by simpa using q8
  have eh : evHead e = ((!e.undo || flU e.kind) && (decide (e.data = bs0') || flD e.kind)) := by simp [evHead, i0, i1', i2, i3, i4, i5]
  have last : (!e.undo || flU e.kind) = true → LoadS h4 ((⟨h.size, 0, none⟩ : Addr).add 7) fun t72 =>
      PIf (!sEq t72 (⟨#[]⟩ : ByteArray)) (LoadI .i64 h4 (⟨h1.size, 0, none⟩ : Addr) fun t75 => K (((bAnd .i64 t75 (16 : Int)) == (0 : Int)), ()) h4) (K (false, ()) h4) := fun hu => by
    rw [hu, Bool.true_and] at eh
    refine LoadS.mk (hget_lit1 hb4 rfl) ?_
    rw [bs_eq]
    refine PIf.intro (fun q => ?_) (fun q => ?_)
    · have q : decide (e.data = bs0') = false := by simpa using q
      refine LoadI.mk (hget_lit hf rfl) ?_
      rw [n5, nz_ite (by decide)]
      rw [q, Bool.false_or] at eh
      cases hfl : flD e.kind with
      | false => exact bad (by rw [eh, hfl])
      | true => exact good (by rw [eh, hfl])
    · have q : decide (e.data = bs0') = true := by simpa using q
      rw [q, Bool.true_or] at eh
      exact good eh
  refine LoadB.mk (hget_lit1 hb4 rfl) (PIf.intro (fun q => ?_) (fun q => ?_))
  · refine LoadI.mk (hget_lit hf rfl) ?_
    rw [n4, nz_ite (by decide)]
    refine PIf.intro (fun qu => bad ?_) (fun qu => last ?_)
    · have : flU e.kind = false := by simpa using qu
      rw [eh, q, this]; rfl
    · have : flU e.kind = true := by simpa using qu
      rw [this, Bool.or_true]
  · exact last (by rw [q]; rfl)
end Go.Lf.G

/-
  Contracts: events and histories as bytes (chapter 13).
-/
set_option maxRecDepth 100000
set_option linter.unusedVariables false
set_option linter.unusedSimpArgs false
namespace Go.Lf.G
open Go

theorem wrapU {n : Int} (h0 : 0 ≤ n) (h1 : n ≤ 9223372036854775807) : IntKind.wrap .u64 n = ((n.toNat : Nat) : Int) := by
  have : n = ((n.toNat : Nat) : Int) := by omega
  rw [this, wrap_u64n (by omega)]
  simp
theorem optP_len {f : Bool} {n : Int} (h : n ≤ 9223372036854775807) : (optP f n).length ≤ 10 := by
  cases f with
  | false => exact Nat.zero_le _
  | true => exact putV_len10 (by omega)
theorem optPut_ok {A : Amb} {hh : Heap} {a : Addr} {f bit n : Int} {fl : Bool} {acc : List UInt8} {K : ByteArray × Unit → Heap → Prop} (hbit : (bAnd .i64 f bit != (0 : Int)) = fl) (hv : hget hh a = some (.int .i64 n)) (hn : fl = true → 0 ≤ n ∧ n ≤ 1099511627776)
    (hacc : acc.length ≤ 100000) (H : ∀ h', Ext hh h' → K (strL (acc ++ optP fl n), ()) h') :
    PIf (bAnd .i64 f bit != (0 : Int)) (LoadI .i64 hh a fun t => HCalls A P f_vary_Put #[.int .u64 (IntKind.wrap .u64 t)] hh fun v h' => ∃ x : ByteArray, v = .string x ∧ (Chk ((((strL acc).size + x.size : Nat) : Int) ≤ IntKind.i64.max) <| K ((strL acc) ++ x, ()) h')) (K (strL acc, ()) hh) := by
  rw [hbit]
  cases fl with
  | false =>
    have := H hh Mod.refl
    simp only [optP, Bool.false_eq_true, if_false, List.append_nil] at this
    exact PIf.no rfl this
  | true =>
    obtain ⟨h0, h1⟩ := hn rfl
    refine PIf.yes rfl (LoadI.mk hv ?_)
    rw [wrapU h0 (by omega)]
    have := putV_len10 (n := n.toNat) (by omega)
    refine vPut_ok (by omega) fun h' x => ⟨_, rfl, ⟨by rw [strL_size, strL_size, max_i64]; omega, ?_⟩⟩
    have := H h' x
    simp only [optP, if_true] at this
    rw [strL_app]
    exact this
theorem inE_pos {f : Bool} {n lo hi : Int} (h : inE f n lo hi = true) (h0 : 0 ≤ lo) (h1 : hi ≤ 1099511627776) : f = true → 0 ≤ n ∧ n ≤ 1099511627776 := fun hf => by
  subst hf
  simp only [inE, if_true, inI_iff] at h
  omega

def resEnc (e : Ev) : Value := .tuple #[.string (strL (if evOK e then encEv e else [])), .int .i64 (if evOK e then 0 else 120)]
theorem eEncode_ok {A : Amb} {h : Heap} {e : Ev} {R : Value → Heap → Prop} (hd : e.data.size < 1099511627776) (H : ∀ h', Ext h h' → R (resEnc e) h') : HCalls A P f_event_Encode #[evA e] h R := by
  refine ok_event_Encode ?_
  unfold F_event_Encode
  refine New.mk fun h1 _ hb x1 hs1 => ?_
  refine LoadI.mk (hget_lit hb rfl) (LoadI.mk (hget_lit1 hb rfl) (LoadI.mk (hget_lit1 hb rfl) (LoadI.mk (hget_lit1 hb rfl) (LoadI.mk (hget_lit1 hb rfl) (LoadI.mk (hget_lit1 hb rfl) (LoadB.mk (hget_lit1 hb rfl) (LoadS.mk (hget_lit1 hb rfl) ?_)))))))
  refine eCheck_ok (e := e) hd fun h2 x2 => ⟨_, rfl, ?_⟩
  cases hok : evOK e with
  | false =>
    refine PIf.yes rfl ?_
    have := H h2 (x1.trans x2)
    rw [resEnc, hok] at this
    exact this
  | true =>
    refine PIf.no rfl ?_
    have H2 : ∀ h', Ext h2 h' → R (.tuple #[.string (strL (encEv e)), .int .i64 0]) h' := fun h' x => by
      have := H h' ((x1.trans x2).trans x)
      rw [resEnc, hok] at this
      exact this
    have hb2 := x2.blk hb (fun h => h)
    have hh := evOK_head hok
    simp only [evHead, Bool.and_eq_true] at hh
    obtain ⟨⟨⟨⟨⟨⟨⟨hk, hid⟩, htk⟩, hr⟩, hs⟩, ht⟩, hu⟩, hx⟩ := hh
    have hk' := inI_iff.1 hk
    have hid' := inI_iff.1 hid
    have htk' := inI_iff.1 htk
    obtain ⟨n1, n2, n3, n4, n5⟩ := fN_bit e.kind
    refine LoadI.mk (hget_lit1 hb2 rfl) (efields_ok ⟨_, _, rfl, ?_⟩)
    refine LoadI.mk (hget_lit hb2 rfl) ?_
    rw [wrapU (n := e.id) (by omega) (by omega)]
    refine vPut_ok (by omega) fun h4 x4 => ⟨_, rfl, ?_⟩
    have hb4 := x4.blk hb2 (fun h => h)
    refine LoadI.mk (n := e.kind) (hget_lit1 hb4 rfl) ⟨hget_lit1 hb2 rfl, ?_⟩
    rw [wrapU (n := e.kind) (by omega) (by omega)]
    have l1 := putV_len10 (n := e.id.toNat) (by omega)
    have l2 := putV_len10 (n := e.kind.toNat) (by omega)
    have l3 := putV_len10 (n := e.tick.toNat) (by omega)
    refine vPut_ok (by omega) fun h5 x5 => ⟨_, rfl, ⟨by rw [strL_size, strL_size, max_i64]; omega, ?_⟩⟩
    have hb5 := x5.blk hb4 (fun h => h)
    refine LoadI.mk (n := e.tick) (hget_lit1 hb5 rfl) ⟨hget_lit1 hb4 rfl, hget_lit1 hb2 rfl, ?_⟩
    rw [wrapU (n := e.tick) (by omega) (by omega)]
    refine vPut_ok (by omega) fun h6 x6 => ⟨_, rfl, ⟨by rw [strL_app, strL_size, strL_size, max_i64, List.length_append]; omega, ?_⟩⟩
    have hb6 := x6.blk hb5 (fun h => h)
    have x26 := (x4.trans x5).trans x6
    rw [strL_app, strL_app]
    refine Join.mk fun K hK => ?_
    have l4 := optP_len (f := flR e.kind) (n := e.ref) (by cases hf : flR e.kind <;> rw [hf] at hr <;> simp [inE, inI] at hr <;> omega)
    have l5 := optP_len (f := flS e.kind) (n := e.step) (by cases hf : flS e.kind <;> rw [hf] at hs <;> simp [inE, inI] at hs <;> omega)
    have l6 := optP_len (f := flT e.kind) (n := e.turn) (by cases hf : flT e.kind <;> rw [hf] at ht <;> simp [inE, inI] at ht <;> omega)
    have l7 := optP_len (f := flU e.kind) (n := if e.undo then 1 else 0) (by split <;> omega)
    refine optPut_ok (fl := flR e.kind) (n := e.ref) (by rw [n1, nz_ite' (by decide)]) (hget_lit1 hb6 rfl) (inE_pos hr (by decide) (by omega)) (by simp only [List.length_append]; omega) fun h7 x7 => hK _ _ ?_
    have hb7 := x7.blk hb6 (fun h => h)
    refine Join.mk fun K1 hK1 => ?_
    refine optPut_ok (fl := flS e.kind) (n := e.step) (by rw [n2, nz_ite' (by decide)]) (hget_lit1 hb7 rfl) (inE_pos hs (by decide) (by omega)) (by simp only [List.length_append]; omega) fun h8 x8 => hK1 _ _ ?_
    have hb8 := x8.blk hb7 (fun h => h)
    refine Join.mk fun K2 hK2 => ?_
    refine optPut_ok (fl := flT e.kind) (n := e.turn) (by rw [n3, nz_ite' (by decide)]) (hget_lit1 hb8 rfl) (inE_pos ht (by decide) (by omega)) (by simp only [List.length_append]; omega) fun h9 x9 => hK2 _ _ ?_
    have hb9 := x9.blk hb8 (fun h => h)
    have x29 := ((x26.trans x7).trans x8).trans x9
    refine Join.mk fun K3 hK3 => ?_
    have hK3' : ∀ h10, Ext h9 h10 → K3 (strL (((putV e.id.toNat ++ putV e.kind.toNat ++ putV e.tick.toNat ++ optP (flR e.kind) e.ref) ++ optP (flS e.kind) e.step ++ optP (flT e.kind) e.turn) ++ optP (flU e.kind) (if e.undo then 1 else 0)), ()) h10 := fun h10 x10 => by
      refine hK3 _ _ ?_
      have hb10 := x10.blk hb9 (fun h => h)
      refine Join.mk fun K4 hK4 => ?_
      rw [n5, nz_ite' (by decide)]
      refine PIf.intro (fun q => ?_) (fun q => ?_)
      · refine LoadS.mk (hget_lit1 hb10 rfl) (vText_ok' (by omega) fun h11 x11 => ⟨_, rfl, ⟨?_, hK4 _ _ ?_⟩⟩)
        · have := putV_len10 (n := (bl e.data).length) (by rw [bl_size]; omega)
          rw [strL_size, strL_size, max_i64]
          simp only [textL, List.length_append, bl_size] at this ⊢
          omega
        · have := H2 h11 ((x29.trans x10).trans x11)
          dsimp only
          rw [strL_app]
          simp only [encEv, optT, q, if_true] at this
          simp only [List.append_assoc] at this ⊢
          exact this
      · refine hK4 _ _ ?_
        have := H2 h10 (x29.trans x10)
        simp only [encEv, optT, q, Bool.false_eq_true, if_false, List.append_nil] at this
        simp only [List.append_assoc] at this ⊢
        exact this
    rw [n4, nz_ite' (by decide)]
    refine PIf.intro (fun q => ?_) (fun q => ?_)
    · refine Join.mk fun K5 hK5 => LoadB.mk (hget_lit1 hb9 rfl) ?_
      have go : ∀ n : Nat, n ≤ 1 → (n : Int) = (if e.undo then 1 else 0) → K5 ((n : Int), ()) h9 := fun n hn he => by
        refine hK5 _ _ ?_
        have := putV_len10 (n := n) (by omega)
        refine vPut_ok (by omega) fun h10 x10 => ⟨_, rfl, ⟨?_, ?_⟩⟩
        · dsimp only
          rw [strL_size, strL_size, max_i64]
          simp only [List.length_append]
          omega
        · have := hK3' h10 x10
          rw [← he] at this
          simp only [optP, q, if_true, Int.toNat_natCast] at this
          dsimp only
          rw [strL_app]
          exact this
      refine PIf.intro (fun qu => go 1 (by omega) (by rw [qu]; rfl)) (fun qu => go 0 (by omega) (by rw [qu]; rfl))
    · have := hK3' h9 Mod.refl
      simp only [optP, q, Bool.false_eq_true, if_false, List.append_nil] at this
      exact this
end Go.Lf.G

/-
  Contracts: events and histories back from bytes (chapter 13).
-/
set_option maxRecDepth 100000
set_option linter.unusedVariables false
set_option linter.unusedSimpArgs false
namespace Go.Lf.G
open Go

theorem len_optI (f : Bool) (m : Nat) (r : Rd) : (optI f m r).2.rest.length ≤ r.rest.length := by
  cases f with
  | false => exact Nat.le_refl _
  | true => exact len_intR m r
theorem len_optX (f : Bool) (r : Rd) : (optX f r).2.rest.length ≤ r.rest.length ∧ (optX f r).1.length ≤ r.rest.length := by
  cases f with
  | false => exact ⟨Nat.le_refl _, Nat.zero_le _⟩
  | true => exact len_textR r
theorem len_rdEv (b : EvB) (r : Rd) : (rdEv b r).2.rest.length ≤ r.rest.length ∧ (rdEv b r).1.data.size ≤ r.rest.length := by
  simp only [rdEv, strL_size]
  have h1 := len_intR b.id r
  have h2 := len_intR b.kind (intR b.id r).2
  have h3 := len_intR b.tick (intR b.kind (intR b.id r).2).2
  generalize intR b.tick (intR b.kind (intR b.id r).2).2 = t at *
  generalize ((intR b.kind (intR b.id r).2).1 : Int) = k at *
  have h4 := len_optI (flR k) b.ref t.2
  have h5 := len_optI (flS k) b.step (optI (flR k) b.ref t.2).2
  have h6 := len_optI (flT k) b.turn (optI (flS k) b.step (optI (flR k) b.ref t.2).2).2
  have h7 := len_optI (flU k) 1 (optI (flT k) b.turn (optI (flS k) b.step (optI (flR k) b.ref t.2).2).2).2
  have h8 := len_optX (flD k) (optI (flU k) 1 (optI (flT k) b.turn (optI (flS k) b.step (optI (flR k) b.ref t.2).2).2).2).2
  omega

theorem optRd_ok {A : Amb} {hh : Heap} {rb b1 j : Nat} {f bit : Int} {m : Nat} {fl : Bool} {r : Rd} {cs : Array Value} {T : TypeId} {K : Unit → Heap → Prop} (hbit : (bAnd .i64 f bit != (0 : Int)) = fl) (hr : RdAt hh rb r) (hl : r.rest.length ≤ 1099511627776)
    (hm : m ≤ 9223372036854775807) (hb : hh[b1]? = some (.cells cs T (0, 0))) (hj : j < cs.size) (hz : cs.setIfInBounds j (.int .i64 0) = cs) (hne : rb ≠ b1)
    (H : ∀ h', RdAt h' rb (optI fl m r).2 → h'[b1]? = some (.cells (cs.setIfInBounds j (.int .i64 ((optI fl m r).1 : Int))) T (0, 0)) → Mod (fun c => c = rb ∨ c = b1) hh h' → K () h') :
    PIf (bAnd .i64 f bit != (0 : Int)) (HCalls A P f_vary_Reader_Int #[ptrV rb, .int .i64 (m : Int)] hh fun v h2 => ∃ t : Int, v = .int .i64 t ∧ (Store h2 ((⟨b1, 0, none⟩ : Addr).add j) (.int .i64 t) fun h3 => K () h3)) (K () hh) := by
  rw [hbit]
  cases fl with
  | false => exact PIf.no rfl (H hh hr (by simp only [optI, Bool.false_eq_true, if_false]; rw [show (((0 : Nat) : Int)) = (0 : Int) from rfl, hz]; exact hb) Mod.refl)
  | true =>
    refine PIf.yes rfl (vInt_ok hr hl hm fun h2 hr2 m2 => ⟨_, rfl, ?_⟩)
    refine Store.mk1 (m2.blk hb hne.symm) hj fun h3 hb3 m3 hs3 => ?_
    exact H h3 (m3.blk hr2 hne) hb3 ((m2.weak fun c _ hc => .inl hc).trans (m3.weak fun c _ hc => .inr hc))

abbrev EvC (i k t a s n : Int) (u : Bool) (d : ByteArray) : Array Value := #[.int .i64 i, .int .i64 k, .int .i64 t, .int .i64 a, .int .i64 s, .int .i64 n, .bool u, .string d]
theorem eread_ok {A : Amb} {h : Heap} {rb : Nat} {r : Rd} {R : Value → Heap → Prop} (hr : RdAt h rb r) (hl : r.rest.length < 1099511627776)
    (H : ∀ h', RdAt h' rb (rdEv evB r).2 → Mod (· = rb) h h' → R (evA (rdEv evB r).1) h') : HCalls A P f_event_read #[ptrV rb] h R := by
  refine ok_event_read ?_
  unfold F_event_read
  have hrb := blk_lt hr
  refine New.mk fun h1 _ hb x1 hs1 => ?_
  have hr1 := x1.blk hr (fun h => h)
  have hlim : intR 500 r = intR evB.id r := rfl
  have l1 := len_intR 500 r
  have l2 := len_intR 18 (intR 500 r).2
  have l3 := len_intR 1099511627776 (intR 18 (intR 500 r).2).2
  refine vInt_ok (most := 500) hr1 (by omega) (by decide) fun h2 hr2 m2 => ⟨_, rfl, ?_⟩
  refine vInt_ok (most := 18) hr2 (by omega) (by decide) fun h3 hr3 m3 => ⟨_, rfl, ?_⟩
  refine vInt_ok (most := 1099511627776) hr3 (by omega) (by decide) fun h4 hr4 m4 => ⟨_, rfl, ?_⟩
  have m14 := (m2.trans m3).trans m4
  have hb4 := m14.blk hb (by omega)
  have hs4 : h1.size ≤ h4.size := m14.size
  refine New.mk fun h5 _ hb5 x5 hs5 => Store.eight hb5 fun h13 hb13 m13 hs13 => ?_
  have hne1 : rb ≠ h4.size := by have := blk_lt hr4; omega
  have hne0 : h.size ≠ h4.size := by omega
  have hr13 := m13.blk (x5.blk hr4 (fun h => h)) hne1
  have hz13 := m13.blk (x5.blk hb4 (fun h => h)) hne0
  have m013 : Mod (· = rb) h h13 := by
    have q : Mod (· = rb) h h4 := x1.mod.trans m14
    exact q.then ((x5.mod.trans m13).weak fun c _ hc => .inr (by have := m14.size; have := x1.size; omega))
  refine LoadI.mk (hget_lit1 hb13 rfl) (efields_ok ⟨_, _, rfl, ?_⟩)
  obtain ⟨n1, n2, n3, n4, n5⟩ := fN_bit ((intR 18 (intR 500 r).2).1 : Int)
  have hb1 : h.size ≤ h4.size := by omega
  have hb0 : h.size ≤ h.size := Nat.le_refl _
  have eR : rdEv evB r = rdEv evB r := rfl
  generalize hk : ((intR 18 (intR 500 r).2).1 : Int) = k at *
  generalize ht : intR 1099511627776 (intR 18 (intR 500 r).2).2 = t at *
  generalize hi : ((intR 500 r).1 : Int) = i at *
  have eP : rdEv evB r = (⟨i, k, t.1, (optI (flR k) 500 t.2).1, (optI (flS k) 15 (optI (flR k) 500 t.2).2).1, (optI (flT k) 5 (optI (flS k) 15 (optI (flR k) 500 t.2).2).2).1,
      decide ((optI (flU k) 1 (optI (flT k) 5 (optI (flS k) 15 (optI (flR k) 500 t.2).2).2).2).1 = 1), strL (optX (flD k) (optI (flU k) 1 (optI (flT k) 5 (optI (flS k) 15 (optI (flR k) 500 t.2).2).2).2).2).1⟩,
      (optX (flD k) (optI (flU k) 1 (optI (flT k) 5 (optI (flS k) 15 (optI (flR k) 500 t.2).2).2).2).2).2) := by
    simp only [rdEv, ← hk, ← ht, ← hi]; rfl
  have l4 := len_optI (flR k) 500 t.2
  have l5 := len_optI (flS k) 15 (optI (flR k) 500 t.2).2
  have l6 := len_optI (flT k) 5 (optI (flS k) 15 (optI (flR k) 500 t.2).2).2
  have l7 := len_optI (flU k) 1 (optI (flT k) 5 (optI (flS k) 15 (optI (flR k) 500 t.2).2).2).2
  rw [eP] at H
  generalize h4.size = b1 at *
  generalize hoa : optI (flR k) 500 t.2 = oa at *
  generalize hos : optI (flS k) 15 oa.2 = os at *
  generalize hot : optI (flT k) 5 os.2 = ot at *
  generalize hou : optI (flU k) 1 ot.2 = ou at *
  clear hb hb4 hb5 hr1 hr2 hr3 hr4 x1 x5 m2 m3 m4 m14 m13 hs1 hs4 hs5 hs13
  have up : ∀ {hx hy : Heap}, Mod (· = rb) h hx → Mod (fun c => c = rb ∨ c = b1) hx hy → Mod (· = rb) h hy := fun m1 m2 => m1.then (m2.weak fun c _ hc => hc.elim .inl fun e => .inr (by omega))
  refine Join.mk fun K hK => ?_
  refine optRd_ok (m := 500) (fl := flR k) (by rw [n1, nz_ite' (by decide)]) hr13 (by omega) (by decide) hb13 (by simp) rfl hne1 fun h14 hr14 hb14 m14 => hK _ _ ?_
  rw [hoa] at hr14 hb14
  have z14 := m14.blk hz13 (by omega)
  have M14 := up m013 m14
  refine Join.mk fun K1 hK1 => ?_
  refine optRd_ok (m := 15) (fl := flS k) (by rw [n2, nz_ite' (by decide)]) hr14 (by omega) (by decide) hb14 (by simp) rfl hne1 fun h15 hr15 hb15 m15 => hK1 _ _ ?_
  rw [hos] at hr15 hb15
  have z15 := m15.blk z14 (by omega)
  have M15 := up M14 m15
  refine Join.mk fun K2 hK2 => ?_
  refine optRd_ok (m := 5) (fl := flT k) (by rw [n3, nz_ite' (by decide)]) hr15 (by omega) (by decide) hb15 (by simp) rfl hne1 fun h16 hr16 hb16 m16 => hK2 _ _ ?_
  rw [hot] at hr16 hb16
  have z16 := m16.blk z15 (by omega)
  have M16 := up M15 m16
  refine Join.mk fun K3 hK3 => ?_
  have fin3 : ∀ h17, RdAt h17 rb ou.2 → h17[b1]? = some (.cells (EvC i k t.1 oa.1 os.1 ot.1 (decide (ou.1 = 1)) bs0') t_api_Event (0, 0)) → Mod (fun c => c = rb ∨ c = b1) h16 h17 → K3 () h17 := fun h17 hr17 hb17 m17 => by
    refine hK3 _ _ ?_
    have z17 := m17.blk z16 (by omega)
    have M17 := up M16 m17
    refine Join.mk fun K4 hK4 => ?_
    have fin4 : ∀ h18, RdAt h18 rb (optX (flD k) ou.2).2 → h18[b1]? = some (.cells (EvC i k t.1 oa.1 os.1 ot.1 (decide (ou.1 = 1)) (strL (optX (flD k) ou.2).1)) t_api_Event (0, 0)) → Mod (fun c => c = rb ∨ c = b1) h17 h18 → K4 () h18 := fun h18 hr18 hb18 m18 => by
      refine hK4 _ _ ?_
      have z18 := m18.blk z17 (by omega)
      have M18 := up M17 m18
      refine LoadI.mk (hget_lit hb18 rfl) (LoadI.mk (hget_lit1 hb18 rfl) (LoadI.mk (hget_lit1 hb18 rfl) (LoadI.mk (hget_lit1 hb18 rfl) (LoadI.mk (hget_lit1 hb18 rfl) (LoadI.mk (hget_lit1 hb18 rfl) (LoadB.mk (hget_lit1 hb18 rfl) (LoadS.mk (hget_lit1 hb18 rfl) ?_)))))))
      refine Store.eight z18 fun h19 hb19 m19 hs19 => ?_
      refine LoadI.mk (hget_lit hb19 rfl) (LoadI.mk (hget_lit1 hb19 rfl) (LoadI.mk (hget_lit1 hb19 rfl) (LoadI.mk (hget_lit1 hb19 rfl) (LoadI.mk (hget_lit1 hb19 rfl) (LoadI.mk (hget_lit1 hb19 rfl) (LoadB.mk (hget_lit1 hb19 rfl) (LoadS.mk (hget_lit1 hb19 rfl) ?_)))))))
      exact H h19 (m19.blk hr18 (by omega)) (M18.then (m19.weak fun c _ hc => .inr (by omega)))
    rw [n5, nz_ite' (by decide)]
    refine PIf.intro (fun q => ?_) (fun q => ?_)
    · refine vRText_ok hr17 (by omega) fun h18 hr18 m18 => ⟨_, rfl, ?_⟩
      refine Store.mk1 (m18.blk hb17 hne1.symm) (by simp) fun h19 hb19 m19 hs19 => ?_
      have ex : optX (flD k) ou.2 = textR ou.2 := by simp only [optX, q, if_true]
      refine fin4 h19 (by rw [ex]; exact m19.blk hr18 hne1) (by rw [ex]; exact hb19) ((m18.weak fun c _ hc => .inl hc).trans (m19.weak fun c _ hc => .inr hc))
    · have ex : optX (flD k) ou.2 = ([], ou.2) := by simp only [optX, q, Bool.false_eq_true, if_false]
      exact fin4 h17 (by rw [ex]; exact hr17) (by rw [ex]; exact hb17) Mod.refl
  rw [n4, nz_ite' (by decide)]
  refine PIf.intro (fun q => ?_) (fun q => ?_)
  · have ex : ou = intR 1 ot.2 := by rw [← hou]; simp only [optI, q, if_true]
    refine vInt_ok (most := 1) hr16 (by omega) (by decide) fun h17 hr17 m17 => ⟨_, rfl, ?_⟩
    refine Store.mk1 (m17.blk hb16 hne1.symm) (by simp) fun h18 hb18 m18 hs18 => ?_
    have e1 : ((((intR 1 ot.2).1 : Nat) : Int) == (1 : Int)) = decide (ou.1 = 1) := by
      rw [ex]
      by_cases h1 : (intR 1 ot.2).1 = 1
      · rw [h1]; rfl
      · rw [decide_eq_false h1, beq_eq_false_iff_ne]; omega
    rw [e1] at hb18
    refine fin3 h18 (by rw [ex]; exact m18.blk hr17 hne1) hb18 ((m17.weak fun c _ hc => .inl hc).trans (m18.weak fun c _ hc => .inr hc))
  · have ex : ou = (0, ot.2) := by rw [← hou]; simp only [optI, q, Bool.false_eq_true, if_false]
    exact fin3 h16 (by rw [ex]; exact hr16) (by rw [ex]; exact hb16) Mod.refl

def evZ : Ev := ⟨0, 0, 0, 0, 0, 0, false, bs0'⟩
def resEv (o : Option Ev) : Value := .tuple #[evA (o.getD evZ), .int .i64 (if o.isSome then 0 else 60)]
theorem eDecode_ok {A : Amb} {h : Heap} {l : List UInt8} {R : Value → Heap → Prop} (hl : l.length < 1099511627776) (H : ∀ h', Ext h h' → R (resEv (decEv l)) h') : HCalls A P f_event_Decode #[.string (strL l)] h R := by
  refine ok_event_Decode ?_
  unfold F_event_Decode
  refine New.mk fun h1 _ hb x1 hs1 => ?_
  refine vRead_ok fun h2 hr2 x2 => ⟨_, rfl, ?_⟩
  have hrb := blk_lt hr2
  refine eread_ok hr2 hl fun h3 hr3 m3 => ⟨_, _, _, _, _, _, _, _, rfl, ?_⟩
  have hb3 := m3.blk (x2.blk hb (fun h => h)) (by omega)
  have x03 : Ext h h3 := (x1.trans x2).more m3 fun c hc => by subst hc; exact x1.size
  have hlen := len_rdEv evB ⟨l, false⟩
  refine New.mk fun h4 _ hb4 x4 hs4 => Store.eight hb4 fun h12 hb12 m12 hs12 => ?_
  have hm3 := m3.size
  have x012 : Ext h h12 := (x03.trans x4).more m12 fun c hc => by subst hc; exact x03.size
  have hb012 := m12.blk (x4.blk hb3 (fun h => h)) (by omega)
  have hr12 := m12.blk (x4.blk hr3 (fun h => h)) (by omega)
  refine Join.mk fun K hK => ?_
  refine vEnd_ok hr12 ⟨_, rfl, ?_⟩
  have eD : decEv l = if endR (rdEv evB ⟨l, false⟩).2 && evOK (rdEv evB ⟨l, false⟩).1 then some (rdEv evB ⟨l, false⟩).1 else none := rfl
  generalize (rdEv evB ⟨l, false⟩).2 = r' at *
  generalize (rdEv evB ⟨l, false⟩).1 = e at *
  have bad : decEv l = none → ∀ hh, Ext h12 hh → K (true, ()) hh := fun en hh x => by
    refine hK _ _ (PIf.yes rfl ?_)
    refine Store.eight (x.blk hb012 (fun h => h)) fun h13 hb13 m13 hs13 => ?_
    refine LoadI.mk (hget_lit hb13 rfl) (LoadI.mk (hget_lit1 hb13 rfl) (LoadI.mk (hget_lit1 hb13 rfl) (LoadI.mk (hget_lit1 hb13 rfl) (LoadI.mk (hget_lit1 hb13 rfl) (LoadI.mk (hget_lit1 hb13 rfl) (LoadB.mk (hget_lit1 hb13 rfl) (LoadS.mk (hget_lit1 hb13 rfl) ?_)))))))
    have := H h13 ((x012.trans x).more m13 fun c hc => by omega)
    rw [en] at this
    exact this
  refine PIf.intro (fun q => ?_) (fun q => ?_)
  · have q : endR r' = false := by simpa using q
    exact bad (by rw [eD, q]; rfl) h12 Mod.refl
  · have q : endR r' = true := by simpa using q
    refine LoadI.mk (hget_lit hb12 rfl) (LoadI.mk (hget_lit1 hb12 rfl) (LoadI.mk (hget_lit1 hb12 rfl) (LoadI.mk (hget_lit1 hb12 rfl) (LoadI.mk (hget_lit1 hb12 rfl) (LoadI.mk (hget_lit1 hb12 rfl) (LoadB.mk (hget_lit1 hb12 rfl) (LoadS.mk (hget_lit1 hb12 rfl) ?_)))))))
    refine eCheck_ok (e := e) (by simp only at hlen; omega) fun h13 x13 => ⟨_, rfl, ?_⟩
    cases hok : evOK e with
    | false => exact bad (by rw [eD, hok, Bool.and_false]; rfl) h13 x13
    | true =>
      refine hK _ _ (PIf.no rfl ?_)
      have hb13 := x13.blk hb12 (fun h => h)
      refine LoadI.mk (hget_lit hb13 rfl) (LoadI.mk (hget_lit1 hb13 rfl) (LoadI.mk (hget_lit1 hb13 rfl) (LoadI.mk (hget_lit1 hb13 rfl) (LoadI.mk (hget_lit1 hb13 rfl) (LoadI.mk (hget_lit1 hb13 rfl) (LoadB.mk (hget_lit1 hb13 rfl) (LoadS.mk (hget_lit1 hb13 rfl) ?_)))))))
      refine Store.eight (x13.blk hb012 (fun h => h)) fun h14 hb14 m14 hs14 => ?_
      refine LoadI.mk (hget_lit hb14 rfl) (LoadI.mk (hget_lit1 hb14 rfl) (LoadI.mk (hget_lit1 hb14 rfl) (LoadI.mk (hget_lit1 hb14 rfl) (LoadI.mk (hget_lit1 hb14 rfl) (LoadI.mk (hget_lit1 hb14 rfl) (LoadB.mk (hget_lit1 hb14 rfl) (LoadS.mk (hget_lit1 hb14 rfl) ?_)))))))
      have := H h14 ((x012.trans x13).more m14 fun c hc => by omega)
      rw [eD, q, hok] at this
      exact this
end Go.Lf.G

/-
  Contracts: histories as bytes, and back; histories alike (chapter 13).
-/
set_option maxRecDepth 100000
set_option linter.unusedVariables false
set_option linter.unusedSimpArgs false
namespace Go.Lf.G
open Go

theorem app_ev : appB P t_sl_api_Event t_api_Event EvE.w 72 = true := by kernel_rfl
theorem P_ev : P.underlying t_api_Event = some (.struct (P.fieldsOf t_api_Event)) := by kernel_rfl
theorem ev_eqB (x : Ev) : eqB P t_api_Event (Ev.fv x) = true := by kernel_rfl
theorem ev_at {h : Heap} {a : Addr} {x : Ev} (c : Cells h a (EvE.enc x)) : hget h a = some (.int .i64 x.id) ∧ hget h (a.add 1) = some (.int .i64 x.kind) ∧ hget h (a.add 2) = some (.int .i64 x.tick) ∧ hget h (a.add 3) = some (.int .i64 x.ref) ∧ hget h (a.add 4) = some (.int .i64 x.step) ∧
    hget h (a.add 5) = some (.int .i64 x.turn) ∧ hget h (a.add 6) = some (.bool x.undo) ∧ hget h (a.add 7) = some (.string x.data) := by
  refine ⟨?_, c 1 _ rfl, c 2 _ rfl, c 3 _ rfl, c 4 _ rfl, c 5 _ rfl, c 6 _ rfl, c 7 _ rfl⟩
  have := c 0 _ rfl
  rwa [add_zero] at this
theorem eqEv {A : Amb} {o1 o2 : Operand} {x y : Ev} {h : Heap} {K : Value → Heap → Prop} (H : K (.bool (decide (x = y))) h) : RunK A P (do eqGuard .eql t_api_Event o1 o2 (evA x) (evA y); binOp .eql t_api_Event (evA x) (evA y)) h K := by
  refine eq_flat (xs := Ev.fv x) (ys := Ev.fv y) P_ev (ev_eqB x) rfl rfl rfl ?_
  have e : decide (Ev.fv x = Ev.fv y) = decide (x = y) := by rw [decide_eq_decide]; exact Ev.fv_inj
  rw [e]; exact H
theorem neEv {A : Amb} {o1 o2 : Operand} {x y : Ev} {h : Heap} {K : Value → Heap → Prop} (H : K (.bool (!decide (x = y))) h) : RunK A P (do eqGuard .neq t_api_Event o1 o2 (evA x) (evA y); binOp .neq t_api_Event (evA x) (evA y)) h K := by
  refine ne_flat (xs := Ev.fv x) (ys := Ev.fv y) P_ev (ev_eqB x) rfl rfl rfl ?_
  have e : decide (Ev.fv x = Ev.fv y) = decide (x = y) := by rw [decide_eq_decide]; exact Ev.fv_inj
  rw [e]; exact H

theorem eEqual_ok {A : Amb} {h : Heap} {a b : Sl} {la lb : List Ev} {R : Value → Heap → Prop} (va : View EvE h a la) (vb : View EvE h b lb) (hl : la.length ≤ 1099511627776)
    (H : R (.bool (decide (la = lb))) h) : HCalls A P f_slices_Equal_of___api_Event_api_Event #[.slice a.p a.len a.cap, .slice b.p b.len b.cap] h R := by
  refine ok_slices_Equal_of___api_Event_api_Event ?_
  unfold F_slices_Equal_of___api_Event_api_Event
  rw [va.len, vb.len]
  refine PIf.intro (fun hc => ?_) (fun hc => ?_)
  · have : la ≠ lb := by rintro rfl; simp at hc
    simpa [this] using H
  · have hlen : la.length = lb.length := by simp at hc; omega
    refine Loop.rule (fun m x h1 => ∃ i : Nat, x = ((i : Int), ()) ∧ h1 = h ∧ m = la.length - i ∧ i ≤ la.length ∧ la.take i = lb.take i) ?_ ⟨0, rfl, rfl, rfl, by omega, by simp⟩
    rintro K m _ _ ⟨i, rfl, rfl, rfl, hi, he⟩ hK
    refine PIf.intro (fun hc => ?_) (fun hc => ?_)
    · have hi' : i < la.length := by simpa using hc
      rw [← va.len]
      refine va.idx (List.getElem?_eq_getElem hi') fun a1 _ c1 => ?_
      obtain ⟨p0, p1, p2, p3, p4, p5, p6, p7⟩ := ev_at c1
      refine LoadI.mk p0 (LoadI.mk p1 (LoadI.mk p2 (LoadI.mk p3 (LoadI.mk p4 (LoadI.mk p5 (LoadB.mk p6 (LoadS.mk p7 ?_)))))))
      rw [← vb.len]
      refine vb.idx (List.getElem?_eq_getElem (by omega)) fun a2 _ c2 => ?_
      obtain ⟨q0, q1, q2, q3, q4, q5, q6, q7⟩ := ev_at c2
      refine LoadI.mk q0 (LoadI.mk q1 (LoadI.mk q2 (LoadI.mk q3 (LoadI.mk q4 (LoadI.mk q5 (LoadB.mk q6 (LoadS.mk q7 ?_)))))))
      refine neEv ⟨_, rfl, ?_⟩
      refine PIf.intro (fun hne => ?_) (fun hne => ?_)
      · have hne : la[i] ≠ lb[i]'(by omega) := by simpa using hne
        have : la ≠ lb := by rintro rfl; exact hne rfl
        simpa [this] using H
      · have heq : la[i] = lb[i]'(by omega) := by simpa using hne
        dsimp only
        rw [wrap_succ (by omega)]
        refine hK (la.length - (i + 1)) _ _ (by omega) ⟨i + 1, rfl, rfl, rfl, hi', ?_⟩
        rw [List.take_succ_eq_append_getElem hi', List.take_succ_eq_append_getElem (show i < lb.length by omega), he, heq]
    · have hi' : i = la.length := by simp at hc; omega
      have : la = lb := by
        rw [List.take_of_length_le (by omega), List.take_of_length_le (by omega)] at he
        exact he
      simpa [this] using H

def resPack (l : List Ev) : Value := .tuple #[.string (strL (packEv l).2), .int .i64 ((packEv l).1 : Int)]
theorem encEv_len {e : Ev} (h : evHead e = true) (hd : e.data.size < 18446744073709551616) : (encEv e).length ≤ 100 + e.data.size := by
  have hh := h
  simp only [evHead, Bool.and_eq_true] at hh
  obtain ⟨⟨⟨⟨⟨⟨⟨hk, hid⟩, htk⟩, hr⟩, hs⟩, ht⟩, hu⟩, hx⟩ := hh
  have hk' := inI_iff.1 hk
  have hid' := inI_iff.1 hid
  have htk' := inI_iff.1 htk
  have l1 := putV_len10 (n := e.id.toNat) (by omega)
  have l2 := putV_len10 (n := e.kind.toNat) (by omega)
  have l3 := putV_len10 (n := e.tick.toNat) (by omega)
  have l4 := optP_len (f := flR e.kind) (n := e.ref) (by cases hf : flR e.kind <;> rw [hf] at hr <;> simp [inE, inI] at hr <;> omega)
  have l5 := optP_len (f := flS e.kind) (n := e.step) (by cases hf : flS e.kind <;> rw [hf] at hs <;> simp [inE, inI] at hs <;> omega)
  have l6 := optP_len (f := flT e.kind) (n := e.turn) (by cases hf : flT e.kind <;> rw [hf] at ht <;> simp [inE, inI] at ht <;> omega)
  have l7 := optP_len (f := flU e.kind) (n := if e.undo then 1 else 0) (by split <;> omega)
  have l8 : (optT (flD e.kind) e.data).length ≤ 10 + e.data.size := by
    cases hf : flD e.kind with
    | false => simp [optT]
    | true =>
      simp only [optT, if_true, textL, List.length_append, bl_size]
      have := putV_len10 hd; omega
  simp only [encEv, List.length_append]
  omega
theorem flat_le {l : List Ev} (h : l.all evOK = true) (hd : ∀ e ∈ l, e.data.size ≤ 4194304) : (l.flatMap fun e => textL (encEv e)).length ≤ l.length * 5000000 := by
  induction l with
  | nil => simp
  | cons e l ih =>
    simp only [List.all_cons, Bool.and_eq_true] at h
    have h1 := ih h.2 fun x hx => hd x (List.mem_cons_of_mem _ hx)
    have h2 := hd e (by simp)
    have h3 := encEv_len (evOK_head h.1) (by omega)
    have h4 := putV_len10 (n := (encEv e).length) (by omega)
    have h5 : (textL (encEv e)).length = (putV (encEv e).length).length + (encEv e).length := by simp [textL]
    simp only [List.flatMap_cons, List.length_append, List.length_cons]
    omega

theorem ePack_ok {A : Amb} {h : Heap} {s : Sl} {l : List Ev} {R : Value → Heap → Prop} (v : View EvE h s l) (hl : l.length ≤ 1099511627776) (hd : ∀ e ∈ l, e.data.size ≤ 4194304) (H : ∀ h', Ext h h' → R (resPack l) h') : HCalls A P f_event_Pack #[.slice s.p s.len s.cap] h R := by
  refine ok_event_Pack ?_
  unfold F_event_Pack
  rw [v.len]
  refine PIf.intro (fun hq => ?_) (fun hq => ?_)
  · have h5 : 500 < l.length := by simp at hq; omega
    have := H h Mod.refl
    simp only [resPack, packEv, if_pos h5] at this
    exact this
  have h5 : ¬ 500 < l.length := by simp at hq; omega
  have hp : packEv l = if l.all evOK then (0, encEvs l) else (120, []) := by unfold packEv; rw [if_neg h5]
  rw [wrap_u64n (by omega)]
  have l0 := putV_len10 (n := l.length) (by omega)
  refine vPut_ok (by omega) fun h1 x1 => ⟨_, rfl, ?_⟩
  refine Loop.rule (fun m x hh => ∃ i : Nat, x = (strL (putV l.length ++ (l.take i).flatMap fun e => textL (encEv e)), (i : Int), ()) ∧ Ext h hh ∧ m = l.length - i ∧ i ≤ l.length ∧ (l.take i).all evOK = true) ?_
    ⟨0, by simp, x1, rfl, by omega, rfl⟩
  rintro K m _ hh ⟨i, rfl, xe, rfl, hi, hall⟩ hK
  refine PIf.intro (fun hq2 => ?_) (fun hq2 => ?_)
  · have hil : i < l.length := by simpa using hq2
    obtain ⟨e, he⟩ : ∃ e, l[i]? = some e := ⟨_, List.getElem?_eq_getElem hil⟩
    have hm := List.mem_of_getElem? he
    have hed := hd e hm
    rw [← v.len]
    refine (v.ext xe).idx he fun a _ c => ?_
    rw [v.len]
    obtain ⟨p0, p1, p2, p3, p4, p5, p6, p7⟩ := ev_at c
    refine LoadI.mk p0 (LoadI.mk p1 (LoadI.mk p2 (LoadI.mk p3 (LoadI.mk p4 (LoadI.mk p5 (LoadB.mk p6 (LoadS.mk p7 ?_)))))))
    refine New.mk fun h2 _ hb2 x2 _ => Store.eight hb2 fun h3 hb3 m3 s3 => ?_
    have x03 : Ext h h3 := (xe.trans x2).more m3 fun c hc => by subst hc; exact xe.size
    refine LoadI.mk (hget_lit hb3 rfl) (LoadI.mk (hget_lit1 hb3 rfl) (LoadI.mk (hget_lit1 hb3 rfl) (LoadI.mk (hget_lit1 hb3 rfl) (LoadI.mk (hget_lit1 hb3 rfl) (LoadI.mk (hget_lit1 hb3 rfl) (LoadB.mk (hget_lit1 hb3 rfl) (LoadS.mk (hget_lit1 hb3 rfl) ?_)))))))
    refine eEncode_ok (e := e) (by omega) fun h4 x4 => ⟨_, _, rfl, ?_⟩
    have x04 := x03.trans x4
    cases hok : evOK e with
    | false =>
      refine PIf.yes rfl ?_
      have := H h4 x04
      rw [resPack, hp, if_neg] at this
      · exact this
      · intro hh; rw [List.all_eq_true] at hh; rw [hh e hm] at hok; cases hok
    | true =>
      refine PIf.no rfl ?_
      have h3 := encEv_len (evOK_head hok) (by omega)
      have h6 := putV_len10 (n := (encEv e).length) (by omega)
      have hfl := flat_le hall fun x hx => hd x (List.mem_of_mem_take hx)
      have htk : (l.take i).length ≤ 500 := by simp; omega
      have hmul : (l.take i).length * 5000000 ≤ 500 * 5000000 := Nat.mul_le_mul_right _ htk
      refine vText_ok (l := encEv e) (by omega) fun h7 x7 => ⟨_, rfl, ⟨?_, ?_⟩⟩
      · dsimp only
        have h9 : (textL (encEv e)).length = (putV (encEv e).length).length + (encEv e).length := by simp [textL]
        rw [strL_size, strL_size, max_i64, List.length_append]
        omega
      · dsimp only
        rw [wrap_succ (by omega), strL_app]
        refine hK (l.length - (i + 1)) _ _ (by omega) ⟨i + 1, ?_, x04.trans x7, rfl, hil, ?_⟩
        · rw [List.take_add_one, he, Option.toList_some, List.flatMap_append, List.append_assoc]
          simp
        · rw [List.take_add_one, he, Option.toList_some, List.all_append, hall]
          simpa using hok
  · have hil : i = l.length := by simp at hq2; omega
    rw [List.take_of_length_le (by omega)] at hall
    have := H hh xe
    rw [resPack, hp, if_pos hall] at this
    dsimp only
    rw [List.take_of_length_le (by omega)]
    exact this

theorem eUnpack_ok {A : Amb} {h : Heap} {l : List UInt8} {R : Value → Heap → Prop} (hl : l.length < 1099511627776)
    (H0 : unpackEv l = none → ∀ h', Ext h h' → R (.tuple #[.slice none 0 0, .int .i64 60]) h')
    (H1 : ∀ es, unpackEv l = some es → ∀ h' s, Ext h h' → View EvE h' s es → es.length ≤ 500 → R (.tuple #[.slice s.p s.len s.cap, .int .i64 0]) h') : HCalls A P f_event_Unpack #[.string (strL l)] h R := by
  refine ok_event_Unpack ?_
  unfold F_event_Unpack
  refine vRead_ok fun h1 hr1 x1 => ⟨_, rfl, ?_⟩
  refine vInt_ok (most := 500) hr1 (by simp only; omega) (by decide) fun h2 hr2 m2 => ⟨_, rfl, ?_⟩
  have x02 : Ext h h2 := x1.more m2 fun c hc => by omega
  have hlen := len_intR 500 ⟨l, false⟩
  have hk : (intR 500 ⟨l, false⟩).1 ≤ 500 := by
    unfold intR
    split
    · exact Nat.zero_le _
    · split
      · exact Nat.zero_le _
      · omega
  have eU : unpackEv l = match rdEvs (intR 500 ⟨l, false⟩).1 (intR 500 ⟨l, false⟩).2 with | none => none | some (l', r) => if endR r then some l' else none := rfl
  generalize hrb : h.size = rb at *
  refine Loop.rule (fun m x hh => ∃ (k : Nat) (s : Sl) (es : List Ev) (r : Rd), x = (s, (k : Int), ()) ∧ Ext h hh ∧ RdAt hh rb r ∧ Own EvE t_api_Event hh s es ∧ (∀ c, s.blk = some c → h.size ≤ c ∧ c ≠ rb) ∧ m = k ∧ r.rest.length ≤ l.length ∧ es.length + k ≤ 500 ∧
    unpackEv l = match rdEvs k r with | none => none | some (l', r') => if endR r' then some (es ++ l') else none) ?_ ⟨(intR 500 ⟨l, false⟩).1, ⟨none, 0, 0⟩, [], (intR 500 ⟨l, false⟩).2, rfl, x02, hr2, Own.nil, fun c hc => by simp [Sl.blk] at hc, rfl, hlen, by simpa using hk, eU⟩
  rintro K m _ hh ⟨k, s, es, r, rfl, xe, hr, o, fr, hm, hlr, hk5, eU⟩ hK
  refine PIf.intro (fun hq => ?_) (fun hq => ?_)
  · have hk0 : 0 < k := by simp at hq; omega
    obtain ⟨k', rfl⟩ : ∃ k', k = k' + 1 := ⟨k - 1, by omega⟩
    have hlt := len_textR r
    refine vRText_ok hr (by omega) fun h3 hr3 m3 => ⟨_, rfl, ?_⟩
    have x3 : Ext h h3 := xe.more m3 fun c hc => by omega
    have o3 := o.mod m3 fun c hc => (fr c hc).2
    refine eDecode_ok (by omega) fun h4 x4 => ⟨_, _, _, _, _, _, _, _, _, rfl, ?_⟩
    have x04 := x3.trans x4
    have hr4 := x4.blk hr3 (fun h => h)
    have o4 := o3.ext x4
    refine New.mk fun h5 _ hb5 x5 hs5 => Store.eight hb5 fun h6 hb6 m6 hs6 => ?_
    have hsz := x04.size
    have x06 : Ext h h6 := (x04.trans x5).more m6 fun c hc => by omega
    have hr6 := m6.blk (x5.blk hr4 (fun h => h)) (by have := blk_lt hr4; omega)
    have o6 := (o4.ext x5).mod m6 fun c hc e => by have := o4.lt hc; omega
    have er : rdEvs (k' + 1) r = match decEv (textR r).1 with | none => none | some e => match rdEvs k' (textR r).2 with | none => none | some (l, r') => some (e :: l, r') := rfl
    rw [er] at eU
    cases hd : decEv (textR r).1 with
    | none =>
      rw [hd] at eU
      exact PIf.yes rfl (H0 eU h6 x06)
    | some e =>
      rw [hd] at eU hb6
      refine PIf.no rfl ?_
      refine LoadI.mk (hget_lit hb6 rfl) (LoadI.mk (hget_lit1 hb6 rfl) (LoadI.mk (hget_lit1 hb6 rfl) (LoadI.mk (hget_lit1 hb6 rfl) (LoadI.mk (hget_lit1 hb6 rfl) (LoadI.mk (hget_lit1 hb6 rfl) (LoadB.mk (hget_lit1 hb6 rfl) (LoadS.mk (hget_lit1 hb6 rfl) ?_)))))))
      refine New.append1 (E := EvE) (x := e) (s := s) (l := es) rfl app_ev o6 (by omega) (by simp [maxLen]; omega) fun s' h' o' m' hb' hn' => ?_
      have hsr : s.blk ≠ some rb := fun hc => (fr _ hc).2 rfl
      dsimp only
      rw [show ((k' + 1 : Nat) : Int) - (1 : Int) = ((k' : Nat) : Int) by simp, wrap_nat (by omega)]
      refine hK k' _ _ (by omega) ⟨k', s', es ++ [e], (textR r).2, rfl, x06.more m' fun c hc => (fr c hc).1, m'.blk hr6 hsr, o', fun c hc => ?_, rfl, by omega, by simp; omega, ?_⟩
      · rcases hb' c hc with h1 | h1
        · exact fr c h1
        · have q := blk_lt hr6
          have q2 := x06.size
          omega
      · rw [eU]
        cases hrk : rdEvs k' (textR r).2 with
        | none => rfl
        | some p => obtain ⟨l', r'⟩ := p; simp
  · have hk0 : k = 0 := by simp at hq; omega
    subst hk0
    simp only [rdEvs, List.append_nil] at eU
    refine vEnd_ok hr ⟨_, rfl, ?_⟩
    refine PIf.intro (fun q => ?_) (fun q => ?_)
    · have q : endR r = false := by simpa using q
      exact H0 (by rw [eU, q]; rfl) hh xe
    · have q : endR r = true := by simpa using q
      exact H1 es (by rw [eU, q]; rfl) hh s xe o.view (by omega)
end Go.Lf.G

