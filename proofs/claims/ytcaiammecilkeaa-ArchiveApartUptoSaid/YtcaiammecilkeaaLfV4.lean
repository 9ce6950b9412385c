/-
  Contracts: events (chapter 13).
-/
import Derived.Test.YtcaiammecilkeaaLfV3
import Derived.Test.YtcaiammecilkeaaLfU12
set_option maxRecDepth 100000
set_option linter.unusedVariables false
set_option linter.unusedSimpArgs false
namespace Go.Lf.G
open Go

def fN (k : Int) : Int := (if flR k then 1 else 0) + (if flS k then 2 else 0) + (if flT k then 4 else 0) + (if flU k then 8 else 0) + (if flD k then 16 else 0)
theorem fN_bit (k : Int) : bAnd .i64 (fN k) 1 = (if flR k then 1 else 0) ∧ bAnd .i64 (fN k) 2 = (if flS k then 2 else 0) ∧ bAnd .i64 (fN k) 4 = (if flT k then 4 else 0) ∧ bAnd .i64 (fN k) 8 = (if flU k then 8 else 0) ∧ bAnd .i64 (fN k) 16 = (if flD k then 16 else 0) := by
  unfold fN
  generalize flR k = a
  generalize flS k = b
  generalize flT k = c
  generalize flU k = d
  generalize flD k = e
  cases a <;> cases b <;> cases c <;> cases d <;> cases e <;> decide
theorem nz_ite {b : Bool} {n : Int} (hn : n ≠ 0) : ((if b then n else 0) == (0 : Int)) = !b := by cases b <;> simp [hn]
theorem nz_ite' {b : Bool} {n : Int} (hn : n ≠ 0) : ((if b then n else 0) != (0 : Int)) = b := by cases b <;> simp [hn]
theorem efields_ok {A : Amb} {h : Heap} {k : Int} {R : Value → Heap → Prop} (H : R (.tuple #[.int .i64 (fN k), .bool (inI k 1 18)]) h) : HCalls A P f_event_fields #[.int .i64 k] h R := by
  refine ok_event_fields ?_
  unfold F_event_fields
  have hk : k = 1 ∨ k = 2 ∨ k = 3 ∨ k = 4 ∨ k = 5 ∨ k = 6 ∨ k = 7 ∨ k = 8 ∨ k = 9 ∨ k = 10 ∨ k = 11 ∨ k = 12 ∨ k = 13 ∨ k = 14 ∨ k = 15 ∨ k = 16 ∨ k = 17 ∨ k = 18 ∨ ¬ (1 ≤ k ∧ k ≤ 18) := by omega
  by_cases hin : 1 ≤ k ∧ k ≤ 18
  · rcases hk with rfl | rfl | rfl | rfl | rfl | rfl | rfl | rfl | rfl | rfl | rfl | rfl | rfl | rfl | rfl | rfl | rfl | rfl | hk
    all_goals (try exact absurd hin hk)
    all_goals repeat first | exact H | (refine Join.mk fun K hK => ?_) | (refine PIf.yes (by decide) ?_) | (refine PIf.no (by decide) ?_) | (refine hK _ _ ?_)
  · have e1 : inI k 1 18 = false := by unfold inI; simpa using hin
    have e2 : fN k = 0 := by
      unfold fN flR flS flT flU flD
      rw [decide_eq_false (by omega), decide_eq_false (by omega), decide_eq_false (by omega), decide_eq_false (by omega), decide_eq_false (by omega)]
      rfl
    rw [e1, e2] at H
    have ne : ∀ n : Int, 1 ≤ n → n ≤ 18 → (k == n) = false := fun n h1 h2 => by
      rw [beq_eq_false_iff_ne]; omega
    repeat first | exact H | (refine Join.mk fun K hK => ?_) | (refine PIf.no (ne _ (by decide) (by decide)) ?_) | (refine hK _ _ ?_)

theorem strL_bl (s : ByteArray) : strL (bl s) = s := strL_of s
theorem pDecode_ok' {A : Amb} {h : Heap} {s : ByteArray} {R : Value → Heap → Prop} (hl : s.size < 1099511627776)
    (H : ∀ h' sl, Ext h h' → (∀ p, decPrg (bl s) = some p → View StpE h' sl p.steps) → R (resPrg (decPrg (bl s)) sl) h') : HCalls A P f_prog_Decode #[.string s] h R := by
  have := pDecode_ok (A := A) (h := h) (l := bl s) (R := R) (by rw [bl_size]; exact hl) H
  rwa [strL_bl] at this
theorem vText_ok' {A : Amb} {h : Heap} {s : ByteArray} {R : Value → Heap → Prop} (hl : s.size ≤ 1099511627776) (H : ∀ h', Ext h h' → R (.string (strL (textL (bl s)))) h') : HCalls A P f_vary_Text #[.string s] h R := by
  have := vText_ok (A := A) (h := h) (l := bl s) (R := R) (by rw [bl_size]; exact hl) H
  rwa [strL_bl] at this

theorem chk1_ok {A : Amb} {h : Heap} {b : Nat} {f n lo hi bit : Int} {fl : Bool} {T : TypeId} {fr : Nat × Nat} {R : Value → Heap → Prop} (hb : h[b]? = some (.cells #[.int .i64 f] T fr)) (hbit : (bAnd .i64 f bit == (0 : Int)) = !fl)
    (H : R (.bool (inE fl n lo hi)) h) : CallV A P (.func (.func f_event_Check_1) #[] #[.pointer (some ⟨b, 0, none⟩)]) #[.int .i64 n, .int .i64 lo, .int .i64 hi, .int .i64 bit] h R := by
  refine CallV.func (first := #[]) (caps := #[ptrV b]) (by kernel_rfl) ?_
  refine ok_event_Check_1 ?_
  unfold F_event_Check_1
  refine atI (LoadI.mk (hget_lit hb rfl) ?_)
  rw [hbit]
  cases fl with
  | false =>
    refine PIf.yes rfl ?_
    have e : (n == (0 : Int)) = decide (n = 0) := by by_cases hn : n = 0 <;> simp [hn]
    rw [e]; exact H
  | true =>
    refine PIf.no rfl ?_
    refine PIf.intro (fun hq => ?_) (fun hq => ?_)
    · have e : inE true n lo hi = decide (n ≤ hi) := by simp at hq; simp only [inE, if_true, inI]; rw [decide_eq_decide]; omega
      rw [e] at H; exact H
    · have e : inE true n lo hi = false := by simp at hq; simp only [inE, if_true, inI]; simp; omega
      rw [e] at H; exact H

abbrev evA (e : Ev) : Value := .agg #[.int .i64 e.id, .int .i64 e.kind, .int .i64 e.tick, .int .i64 e.ref, .int .i64 e.step, .int .i64 e.turn, .bool e.undo, .string e.data]
abbrev EvCells (e : Ev) : Array Value := #[.int .i64 e.id, .int .i64 e.kind, .int .i64 e.tick, .int .i64 e.ref, .int .i64 e.step, .int .i64 e.turn, .bool e.undo, .string e.data]
theorem eCheck_ok {A : Amb} {h : Heap} {e : Ev} {R : Value → Heap → Prop} (hd : e.data.size < 1099511627776) (H : ∀ h', Ext h h' → R (.int .i64 (if evOK e then 0 else 120)) h') : HCalls A P f_event_Check #[evA e] h R := by
  refine ok_event_Check ?_
  unfold F_event_Check
  refine New.mk fun h1 _ hb x1 hs1 => ?_
  refine LoadI.mk (hget_lit1 hb rfl) (efields_ok ⟨_, _, rfl, ?_⟩)
  refine New.mk fun h2 _ hb2 x2 hs2 => ?_
  refine Store.mk hb2 (by simp) fun h4 hf m4 hs4 => ?_
  have x4 : Ext h h4 := (x1.trans x2).more m4 fun c hc => by subst hc; exact x1.size
  have hne : h.size ≠ h1.size := by omega
  have hb4 := m4.blk (x2.blk hb (fun h => h)) hne
  have hf : h4[h1.size]? = some (.cells #[.int .i64 (fN e.kind)] t_int (0, 0)) := hf
  obtain ⟨n1, n2, n3, n4, n5⟩ := fN_bit e.kind
  refine Join.mk fun K hK => ?_
  have bad : evHead e = false → K (true, ()) h4 := fun hh => by
    refine hK _ _ (PIf.yes rfl ?_)
    have := H h4 x4
    have e1 : evOK e = false := by simp [evOK, hh]
    rw [e1] at this
    exact this
  have good : evHead e = true → K (false, ()) h4 := fun hh => by
    refine hK _ _ (PIf.no rfl ?_)
    refine LoadI.mk (hget_lit1 hb4 rfl) ?_
    refine Join.mk fun K1 hK1 => ?_
    have fin : evTail e = true → ∀ h', Ext h h' → K1 () h' := fun ht h' x => by
      refine hK1 _ _ ?_
      have := H h' x
      have e1 : evOK e = true := by simp [evOK, hh, ht]
      rw [e1] at this
      exact this
    have fail : evTail e = false → ∀ h', Ext h h' → R (.int .i64 120) h' := fun ht h' x => by
      have := H h' x
      have e1 : evOK e = false := by simp [evOK, ht]
      rw [e1] at this
      exact this
    refine PIf.intro (fun hk => ?_) (fun hk => ?_)
    · have hk : e.kind = 1 := by simpa using hk
      have et : evTail e = (decPrg (bl e.data)).isSome := by unfold evTail; rw [if_pos hk]
      refine LoadS.mk (hget_lit1 hb4 rfl) (pDecode_ok' hd fun h5 sl x5 _ => ?_)
      have x05 := x4.trans x5
      cases hp : decPrg (bl e.data) with
      | none =>
        refine ⟨⟨none, 0, 0⟩, _, _, rfl, ?_⟩
        refine New.mk fun h6 _ hb6 x6 hs6 => Store.two hb6 fun h7 hb7 m7 hs7 => PIf.yes rfl ?_
        exact fail (by rw [et, hp]; rfl) h7 ((x05.trans x6).more m7 fun c hc => by subst hc; exact x05.size)
      | some p =>
        refine ⟨sl, _, _, rfl, ?_⟩
        refine New.mk fun h6 _ hb6 x6 hs6 => Store.two hb6 fun h7 hb7 m7 hs7 => PIf.no rfl ?_
        exact fin (by rw [et, hp]; rfl) h7 ((x05.trans x6).more m7 fun c hc => by subst hc; exact x05.size)
    · have hk : e.kind ≠ 1 := by simpa using hk
      refine PIf.intro (fun hk2 => ?_) (fun hk2 => ?_)
      · have hk2 : e.kind = 12 := by simpa using hk2
        have et : evTail e = nameOK e.data := by unfold evTail; rw [if_neg hk, if_pos hk2]
        refine LoadS.mk (hget_lit1 hb4 rfl) (pNamed_ok ⟨_, rfl, ?_⟩)
        cases hn : nameOK e.data with
        | false => exact fail (by rw [et, hn]) h4 x4
        | true => exact fin (by rw [et, hn]) h4 x4
      · have hk2 : e.kind ≠ 12 := by simpa using hk2
        have et : evTail e = true := by unfold evTail; rw [if_neg hk, if_neg hk2]
        exact fin et h4 x4
  refine PIf.intro (fun q => bad (by simp at q; simp [evHead, q])) (fun q1 => ?_)
  refine LoadI.mk (hget_lit hb4 rfl) (PIf.intro (fun q => bad ?_) (fun q2 => ?_))
  · have : inI e.id 1 500 = false := by simp at q; unfold inI; simp; omega
    simp [evHead, this]
  refine LoadI.mk (hget_lit hb4 rfl) (PIf.intro (fun q => bad ?_) (fun q3 => ?_))
  · have : inI e.id 1 500 = false := by simp at q; unfold inI; simp; omega
    simp [evHead, this]
  have i1 : 1 ≤ e.id ∧ e.id ≤ 500 := by simp at q2 q3; omega
  refine LoadI.mk (hget_lit1 hb4 rfl) (PIf.intro (fun q => bad ?_) (fun q4 => ?_))
  · have : inI e.tick 0 1099511627776 = false := by simp at q; unfold inI; simp; omega
    simp [evHead, this]
  refine LoadI.mk (hget_lit1 hb4 rfl) (PIf.intro (fun q => bad ?_) (fun q5 => ?_))
  · have : inI e.tick 0 1099511627776 = false := by simp at q; unfold inI; simp; omega
    simp [evHead, this]
  have i2 : inI e.tick 0 1099511627776 = true := by simp at q4 q5; rw [inI_iff]; omega
  have i1' : inI e.id 1 500 = true := inI_iff.2 i1
  have i0 : inI e.kind 1 18 = true := by simpa using q1
  refine LoadI.mk (hget_lit1 hb4 rfl) (LoadI.mk (hget_lit hb4 rfl) ?_)
  rw [wrap_i64 (n := e.id - 1) (by omega) (by omega)]
  refine chk1_ok (fl := flR e.kind) hf (by rw [n1, nz_ite (by decide)]) ⟨_, rfl, ?_⟩
  refine PIf.intro (fun q => bad ?_) (fun q6 => ?_)
  · have : inE (flR e.kind) e.ref 1 (e.id - 1) = false := by simpa using q
    simp [evHead, this]
  have i3 : inE (flR e.kind) e.ref 1 (e.id - 1) = true := by simpa using q6
  refine LoadI.mk (hget_lit1 hb4 rfl) ?_
  refine chk1_ok (fl := flS e.kind) hf (by rw [n2, nz_ite (by decide)]) ⟨_, rfl, ?_⟩
  refine PIf.intro (fun q => bad ?_) (fun q7 => ?_)
  · have : inE (flS e.kind) e.step 0 15 = false := by simpa using q
    simp [evHead, this]
  have i4 : inE (flS e.kind) e.step 0 15 = true := by simpa using q7
  refine LoadI.mk (hget_lit1 hb4 rfl) ?_
  refine chk1_ok (fl := flT e.kind) hf (by rw [n3, nz_ite (by decide)]) ⟨_, rfl, ?_⟩
  refine PIf.intro (fun q => bad ?_) (fun q8 => ?_)
  · have : inE (flT e.kind) e.turn 1 5 = false := by simpa using q
    simp [evHead, this]
  have i5 : inE (flT e.kind) e.turn 1 5 = true := by simpa using q8
  have eh : evHead e = ((!e.undo || flU e.kind) && (decide (e.data = bs0') || flD e.kind)) := by simp [evHead, i0, i1', i2, i3, i4, i5]
  have last : (!e.undo || flU e.kind) = true → LoadS h4 ((⟨h.size, 0, none⟩ : Addr).add 7) fun t72 =>
      PIf (!sEq t72 (⟨#[]⟩ : ByteArray)) (LoadI .i64 h4 (⟨h1.size, 0, none⟩ : Addr) fun t75 => K (((bAnd .i64 t75 (16 : Int)) == (0 : Int)), ()) h4) (K (false, ()) h4) := fun hu => by
    rw [hu, Bool.true_and] at eh
    refine LoadS.mk (hget_lit1 hb4 rfl) ?_
    rw [bs_eq]
    refine PIf.intro (fun q => ?_) (fun q => ?_)
    · have q : decide (e.data = bs0') = false := by simpa using q
      refine LoadI.mk (hget_lit hf rfl) ?_
      rw [n5, nz_ite (by decide)]
      rw [q, Bool.false_or] at eh
      cases hfl : flD e.kind with
      | false => exact bad (by rw [eh, hfl])
      | true => exact good (by rw [eh, hfl])
    · have q : decide (e.data = bs0') = true := by simpa using q
      rw [q, Bool.true_or] at eh
      exact good eh
  refine LoadB.mk (hget_lit1 hb4 rfl) (PIf.intro (fun q => ?_) (fun q => ?_))
  · refine LoadI.mk (hget_lit hf rfl) ?_
    rw [n4, nz_ite (by decide)]
    refine PIf.intro (fun qu => bad ?_) (fun qu => last ?_)
    · have : flU e.kind = false := by simpa using qu
      rw [eh, q, this]; rfl
    · have : flU e.kind = true := by simpa using qu
      rw [this, Bool.or_true]
  · exact last (by rw [q]; rfl)
end Go.Lf.G
