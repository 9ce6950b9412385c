/-
  Plain law, no program in sight: events and histories as bytes (chapter 13).
-/
import Derived.Test.YtcaiammecilkeaaLfU11
set_option maxRecDepth 100000
set_option linter.unusedVariables false
set_option linter.unusedSimpArgs false
namespace Go.Lf
open Go

structure Ev where
  id : Int
  kind : Int
  tick : Int
  ref : Int
  step : Int
  turn : Int
  undo : Bool
  data : ByteArray
def EvE : Enc Ev where
  enc x := [.int .i64 x.id, .int .i64 x.kind, .int .i64 x.tick, .int .i64 x.ref, .int .i64 x.step, .int .i64 x.turn, .bool x.undo, .string x.data]
  w := 8
  len _ := rfl
  pos := by omega
  one x v hv := by simp at hv; rcases hv with rfl | rfl | rfl | rfl | rfl | rfl | rfl | rfl <;> rfl
def Ev.fv (x : Ev) : List Fv := [.i x.id, .i x.kind, .i x.tick, .i x.ref, .i x.step, .i x.turn, .b x.undo, .s x.data]
theorem Ev.fv_inj {x y : Ev} : x.fv = y.fv ↔ x = y := by
  cases x; cases y; simp [Ev.fv]
instance : DecidableEq Ev := fun x y => decidable_of_iff (x.fv = y.fv) Ev.fv_inj

/-! ### the fields of a kind -/
def flR (k : Int) : Bool := decide (k = 3 ∨ k = 4 ∨ k = 5 ∨ k = 11 ∨ k = 7 ∨ k = 8 ∨ k = 9)
def flS (k : Int) : Bool := decide (k = 6 ∨ k = 10)
def flT (k : Int) : Bool := decide (k = 7 ∨ k = 8 ∨ k = 9)
def flU (k : Int) : Bool := decide (k = 6)
def flD (k : Int) : Bool := decide (k = 1 ∨ k = 12)
def inE (f : Bool) (n lo hi : Int) : Bool := if f then inI n lo hi else decide (n = 0)
def evHead (e : Ev) : Bool := inI e.kind 1 18 && inI e.id 1 500 && inI e.tick 0 1099511627776 && inE (flR e.kind) e.ref 1 (e.id - 1) && inE (flS e.kind) e.step 0 15 && inE (flT e.kind) e.turn 1 5 &&
  (!e.undo || flU e.kind) && (decide (e.data = bs0') || flD e.kind)
def evTail (e : Ev) : Bool := if e.kind = 1 then (decPrg (bl e.data)).isSome else if e.kind = 12 then nameOK e.data else true
def evOK (e : Ev) : Bool := evHead e && evTail e
def optP (f : Bool) (n : Int) : List UInt8 := if f then putV n.toNat else []
def optT (f : Bool) (s : ByteArray) : List UInt8 := if f then textL (bl s) else []
def encEv (e : Ev) : List UInt8 := putV e.id.toNat ++ (putV e.kind.toNat ++ (putV e.tick.toNat ++ (optP (flR e.kind) e.ref ++ (optP (flS e.kind) e.step ++ (optP (flT e.kind) e.turn ++ (optP (flU e.kind) (if e.undo then 1 else 0) ++ optT (flD e.kind) e.data))))))

structure EvB where
  id : Nat
  kind : Nat
  tick : Nat
  ref : Nat
  step : Nat
  turn : Nat
def EvB.wide (b : EvB) : Prop := 500 ≤ b.id ∧ 18 ≤ b.kind ∧ 1099511627776 ≤ b.tick ∧ 500 ≤ b.ref ∧ 15 ≤ b.step ∧ 5 ≤ b.turn
def evB : EvB := ⟨500, 18, 1099511627776, 500, 15, 5⟩
def optI (f : Bool) (m : Nat) (r : Rd) : Nat × Rd := if f then intR m r else (0, r)
def optX (f : Bool) (r : Rd) : List UInt8 × Rd := if f then textR r else ([], r)
def rdEv (b : EvB) (r : Rd) : Ev × Rd :=
  let i := intR b.id r
  let k := intR b.kind i.2
  let t := intR b.tick k.2
  let a := optI (flR k.1) b.ref t.2
  let s := optI (flS k.1) b.step a.2
  let n := optI (flT k.1) b.turn s.2
  let u := optI (flU k.1) 1 n.2
  let d := optX (flD k.1) u.2
  (⟨i.1, k.1, t.1, a.1, s.1, n.1, decide (u.1 = 1), strL d.1⟩, d.2)
def decEv (l : List UInt8) : Option Ev := let x := rdEv evB ⟨l, false⟩; if endR x.2 && evOK x.1 then some x.1 else none

theorem optI_put {f : Bool} {n : Int} {m : Nat} (h : inE f n 0 m = true) (hm : m < 18446744073709551616) (t : List UInt8) : optI f m ⟨optP f n ++ t, false⟩ = (n.toNat, ⟨t, false⟩) := by
  cases f with
  | false => simp [inE] at h; subst h; rfl
  | true =>
    simp only [inE, if_true, inI_iff] at h
    simp only [optI, optP, if_true]
    exact intR_put (by omega) (by omega) t
theorem inE_weak {f : Bool} {n lo hi lo' hi' : Int} (h : inE f n lo hi = true) (h1 : lo' ≤ lo) (h2 : hi ≤ hi') : inE f n lo' hi' = true := by
  cases f with
  | false => exact h
  | true => simp only [inE, if_true, inI_iff] at h ⊢; omega
theorem inE_nat {f : Bool} {n lo hi : Int} (h : inE f n lo hi = true) (h0 : 0 ≤ lo) : ((n.toNat : Nat) : Int) = n := by
  cases f with
  | false => simp [inE] at h; subst h; rfl
  | true => simp only [inE, if_true, inI_iff] at h; omega
theorem optX_put {f : Bool} {s : ByteArray} (h : (decide (s = bs0') || f) = true) (hs : s.size < 18446744073709551616) (t : List UInt8) : optX f ⟨optT f s ++ t, false⟩ = (bl s, ⟨t, false⟩) := by
  cases f with
  | false => simp at h; subst h; rfl
  | true =>
    simp only [optX, optT, if_true]
    exact textR_put (by rw [bl_size]; exact hs) t

theorem evOK_head {e : Ev} (h : evOK e = true) : evHead e = true := by simp only [evOK, Bool.and_eq_true] at h; exact h.1
theorem rdEv_enc {b : EvB} (hb : b.wide) (hi : b.ref < 18446744073709551616 ∧ b.step < 18446744073709551616 ∧ b.turn < 18446744073709551616) {e : Ev} (he : evHead e = true) (hd : e.data.size < 18446744073709551616) (t : List UInt8) : rdEv b ⟨encEv e ++ t, false⟩ = (e, ⟨t, false⟩) := by
  obtain ⟨id, kind, tick, ref, step, turn, undo, data⟩ := e
  simp only [evHead, Bool.and_eq_true] at he
  obtain ⟨⟨⟨⟨⟨⟨⟨hk, hid⟩, htk⟩, hr⟩, hs⟩, ht⟩, hu⟩, hx⟩ := he
  obtain ⟨b1, b2, b3, b4, b5, b6⟩ := hb
  have hk' := inI_iff.1 hk
  have hid' := inI_iff.1 hid
  have htk' := inI_iff.1 htk
  have e1 := intR_put (n := id.toNat) (most := b.id) (by omega) (by omega)
  have e2 := intR_put (n := kind.toNat) (most := b.kind) (by omega) (by omega)
  have e3 := intR_put (n := tick.toNat) (most := b.tick) (by omega) (by omega)
  have ek : ((kind.toNat : Nat) : Int) = kind := by omega
  have e4 := optI_put (f := flR kind) (n := ref) (m := b.ref) (inE_weak hr (by omega) (by omega)) hi.1
  have e5 := optI_put (f := flS kind) (n := step) (m := b.step) (inE_weak hs (by omega) (by omega)) hi.2.1
  have e6 := optI_put (f := flT kind) (n := turn) (m := b.turn) (inE_weak ht (by omega) (by omega)) hi.2.2
  have e7 := optI_put (f := flU kind) (n := if undo then 1 else 0) (m := 1) (by
    cases hf : flU kind with
    | true => simp only [inE, if_true, inI_iff]; split <;> omega
    | false => rw [hf] at hu; cases undo <;> simp [inE] at hu ⊢) (by decide)
  have e8 := optX_put (f := flD kind) (s := data) hx hd
  simp only [rdEv, encEv, List.append_assoc, e1, e2, e3, ek, e4, e5, e6, e7, e8]
  have eu : decide ((if undo = true then (1 : Int) else 0).toNat = 1) = undo := by cases undo <;> rfl
  have s1 := inE_nat hr (by decide)
  have s2 := inE_nat hs (by decide)
  have s3 := inE_nat ht (by decide)
  have s4 : ((id.toNat : Nat) : Int) = id := by omega
  have s5 : ((tick.toNat : Nat) : Int) = tick := by omega
  rw [eu, s1, s2, s3, s4, s5, strL_of]

theorem optI_good {f : Bool} {m : Nat} {r : Rd} (h : (optI f m r).2.bad = false) : r.bad = false ∧ r.rest = optP f (optI f m r).1 ++ (optI f m r).2.rest ∧ (optI f m r).1 ≤ m := by
  cases f with
  | false => exact ⟨h, rfl, Nat.zero_le _⟩
  | true =>
    simp only [optI, optP, if_true, Int.toNat_natCast] at h ⊢
    exact intR_good h
theorem optX_good {f : Bool} {r : Rd} (h : (optX f r).2.bad = false) : r.bad = false ∧ r.rest = optT f (strL (optX f r).1) ++ (optX f r).2.rest := by
  cases f with
  | false => exact ⟨h, rfl⟩
  | true =>
    simp only [optX, optT, if_true, bl_strL] at h ⊢
    exact textR_good h
theorem rdEv_good {b : EvB} {r : Rd} (h : (rdEv b r).2.bad = false) : r.bad = false ∧ r.rest = encEv (rdEv b r).1 ++ (rdEv b r).2.rest := by
  simp only [rdEv] at h ⊢
  obtain ⟨d1, d2⟩ := optX_good h
  obtain ⟨u1, u2, u3⟩ := optI_good d1
  obtain ⟨n1, n2, _⟩ := optI_good u1
  obtain ⟨s1, s2, _⟩ := optI_good n1
  obtain ⟨a1, a2, _⟩ := optI_good s1
  obtain ⟨t1, t2, _⟩ := intR_good a1
  obtain ⟨k1, k2, _⟩ := intR_good t1
  obtain ⟨i1, i2, _⟩ := intR_good k1
  refine ⟨i1, ?_⟩
  simp only [encEv, List.append_assoc, Int.toNat_natCast]
  rw [← d2]
  have eu : ∀ n : Nat, n ≤ 1 → (if decide (n = 1) = true then (1 : Int) else 0) = (n : Int) := fun n hn => by
    have : n = 0 ∨ n = 1 := by omega
    rcases this with rfl | rfl <;> rfl
  rw [eu _ u3, ← u2, ← n2, ← s2, ← a2, ← t2, ← k2, ← i2]

theorem decEv_some {l : List UInt8} {e : Ev} (h : decEv l = some e) : evOK e = true ∧ encEv e = l := by
  unfold decEv at h
  simp only at h
  split at h
  · rename_i hq
    simp only [Bool.and_eq_true] at hq
    obtain ⟨he, hok⟩ := hq
    obtain rfl := Option.some.inj h
    refine ⟨hok, ?_⟩
    rw [endR_iff] at he
    obtain ⟨_, h2⟩ := rdEv_good (b := evB) (r := ⟨l, false⟩) (by rw [he])
    rw [he] at h2
    simpa using h2.symm
  · cases h
theorem evB_wide : evB.wide := ⟨Nat.le_refl _, Nat.le_refl _, Nat.le_refl _, Nat.le_refl _, Nat.le_refl _, Nat.le_refl _⟩
theorem encEv_data {e : Ev} (h : evHead e = true) : e.data.size ≤ (encEv e).length := by
  simp only [evHead, Bool.and_eq_true] at h
  have hx := h.2
  cases hf : flD e.kind with
  | false =>
    rw [hf] at hx
    simp at hx
    rw [hx]
    exact Nat.zero_le _
  | true =>
    simp only [encEv, optT, hf, if_true, textL, List.length_append, bl_size]
    omega
theorem decEv_iff {l : List UInt8} {e : Ev} (hl : l.length < 18446744073709551616) : decEv l = some e ↔ evOK e = true ∧ encEv e = l := by
  refine ⟨decEv_some, fun ⟨h1, h2⟩ => ?_⟩
  have h3 := encEv_data (evOK_head h1)
  have := rdEv_enc evB_wide ⟨by decide, by decide, by decide⟩ (evOK_head h1) (by rw [h2] at h3; omega) []
  rw [List.append_nil, h2] at this
  unfold decEv
  simp only [this, h1]
  rfl
theorem decEv_wide {b : EvB} (hb : b.wide) (hi : b.ref < 18446744073709551616 ∧ b.step < 18446744073709551616 ∧ b.turn < 18446744073709551616) {l : List UInt8} (hl : l.length < 18446744073709551616) :
    decEv l = if evOK (rdEv b ⟨l, false⟩).1 = true ∧ endR (rdEv b ⟨l, false⟩).2 = true ∧ encEv (rdEv b ⟨l, false⟩).1 = l then some (rdEv b ⟨l, false⟩).1 else none := by
  split
  · rename_i h
    exact (decEv_iff hl).2 ⟨h.1, h.2.2⟩
  · rename_i h
    cases hd : decEv l with
    | none => rfl
    | some e =>
      exfalso
      obtain ⟨h4, h6⟩ := decEv_some hd
      have h3 := encEv_data (evOK_head h4)
      have := rdEv_enc hb hi (evOK_head h4) (by rw [h6] at h3; omega) []
      rw [List.append_nil, h6] at this
      rw [this] at h
      exact h ⟨h4, rfl, h6⟩

/-! ### histories -/
def encEvs (l : List Ev) : List UInt8 := putV l.length ++ l.flatMap fun e => textL (encEv e)
/-- errno, and a history's bytes -/
def packEv (l : List Ev) : Nat × List UInt8 := if 500 < l.length then (2, []) else if l.all evOK then (0, encEvs l) else (120, [])
def rdEvs : Nat → Rd → Option (List Ev × Rd)
  | 0, r => some ([], r)
  | n + 1, r => match decEv (textR r).1 with
    | none => none
    | some e => match rdEvs n (textR r).2 with
      | none => none
      | some (l, r') => some (e :: l, r')
def unpackEv (l : List UInt8) : Option (List Ev) :=
  let n := intR 500 ⟨l, false⟩
  match rdEvs n.1 n.2 with
  | none => none
  | some (l', r) => if endR r then some l' else none
theorem rdEvs_enc (t : List UInt8) : ∀ {l : List Ev}, l.all evOK = true → (∀ e ∈ l, (encEv e).length < 18446744073709551616) → rdEvs l.length ⟨(l.flatMap fun e => textL (encEv e)) ++ t, false⟩ = some (l, ⟨t, false⟩)
  | [], _, _ => rfl
  | e :: l, h, hs => by
    simp only [List.all_cons, Bool.and_eq_true] at h
    have h1 := hs e (by simp)
    have e1 := textR_put (l := encEv e) h1
    have e2 := (decEv_iff h1).2 ⟨h.1, rfl⟩
    have e3 := rdEvs_enc t h.2 fun x hx => hs x (List.mem_cons_of_mem _ hx)
    simp only [List.length_cons, rdEvs, List.flatMap_cons, List.append_assoc, e1, e2, e3]
theorem unpack_pack {l : List Ev} (hl : l.length ≤ 500) (h : l.all evOK = true) (hs : ∀ e ∈ l, (encEv e).length < 18446744073709551616) : unpackEv (encEvs l) = some l := by
  have e1 := intR_put (n := l.length) (most := 500) (by omega) hl
  have e2 := rdEvs_enc [] h hs
  rw [List.append_nil] at e2
  simp only [unpackEv, encEvs, e1, e2]
  rfl
end Go.Lf
