/-
  Whether flat structs are equal; variables of flat structs.
-/
import Derived.Test.YtcaiammecilkeaaLfU7ToU10
import Derived.Laws.StructEq
import Derived.ChangeKeysEq
import Derived.Test.YtcaiammecilkeaaLfO1ToU6
import Derived.Test.YtcaiammecilkeaaLfKToU1
set_option maxRecDepth 100000
set_option linter.unusedVariables false
set_option linter.unusedSimpArgs false
namespace Go.Lf
open Go

/-- a value of one cell that is compared as it is -/
inductive Fv where
  | i (n : Int)
  | s (x : ByteArray)
  | b (x : Bool)
  deriving DecidableEq
def Fv.v : Fv → Value
  | .i n => .int .i64 n
  | .s x => .string x
  | .b x => .bool x
def Fv.ok (P : Program) (t : TypeId) : Fv → Bool
  | .i _ => match P.underlying t with | some (.int .i64) => true | _ => false
  | .s _ => match P.underlying t with | some .string => true | _ => false
  | .b _ => match P.underlying t with | some .bool => true | _ => false
def sameK : Fv → Fv → Bool
  | .i _, .i _ => true
  | .s _, .s _ => true
  | .b _, .b _ => true
  | _, _ => false
def flatB (P : Program) : Nat → List Field → List Fv → Bool
  | _, [], [] => true
  | i, f :: fs, x :: xs => !(f.name == String.ofList [Char.ofNat 95]) && Nat.beq f.offset i && x.ok P f.type && flatB P (i + 1) fs xs
  | _, _, _ => false
def sameAll : List Fv → List Fv → Bool
  | [], [] => true
  | x :: xs, y :: ys => sameK x y && sameAll xs ys
  | _, _ => false

theorem eqF_one {P : Program} {d : Nat} {t : TypeId} {x y : Fv} (hx : x.ok P t = true) (hk : sameK x y = true) (w : World) : (Op.equalIn (d + 1) t x.v y.v).run P w = .ok (decide (x = y)) w := by
  cases x <;> cases y <;> simp only [sameK, Bool.false_eq_true] at hk <;> simp only [Fv.ok] at hx <;> split at hx <;> (try cases hx)
  · rename_i n m _ hu
    simp only [Fv.v]
    rw [run_equalIn_int w d t .i64 .i64 n m hu]
    simp only [Fv.i.injEq]; rfl
  · rename_i a b _ hu
    simp only [Fv.v]
    rw [run_equalIn_string w d t a b hu, toList_inj]
    simp only [Fv.s.injEq]
  · rename_i a b _ hu
    simp only [Fv.v]
    rw [run_equalIn_bool' w d t a b hu]
    simp only [Fv.b.injEq]
    cases a <;> cases b <;> rfl
theorem Fv.plain {P : Program} {t : TypeId} {x : Fv} (hx : x.ok P t = true) : P.plainKey t = true := by
  cases x <;> simp only [Fv.ok] at hx <;> split at hx <;> (try cases hx) <;> (rename_i hu; simp [Program.plainKey, hu])

theorem eqF_all {P : Program} {d : Nat} (xs ys : List Fv) (w : World) : ∀ (fs : List Field) (xr yr : List Fv) (i : Nat), xs.drop i = xr → ys.drop i = yr → flatB P i fs xr = true → sameAll xr yr = true →
    (Op.eqFields (d + 1) (xs.map Fv.v).toArray (ys.map Fv.v).toArray fs).run P w = .ok (decide (xr = yr)) w := by
  intro fs
  induction fs with
  | nil =>
    intro xr yr i hx hy hf hs
    cases xr with
    | nil =>
      cases yr with
      | nil => simp [Op.eqFields]
      | cons y yr => simp [sameAll] at hs
    | cons x xr => simp [flatB] at hf
  | cons f fs ih =>
    intro xr yr i hx hy hf hs
    cases xr with
    | nil => simp [flatB] at hf
    | cons x xr =>
      cases yr with
      | nil => simp [sameAll] at hs
      | cons y yr =>
        simp only [flatB, sameAll, Bool.and_eq_true, Nat.beq_eq] at hf hs
        obtain ⟨⟨⟨hn, ho⟩, hok⟩, hr⟩ := hf
        have hxi : xs[i]? = some x := by have := congrArg (fun l : List Fv => l[0]?) hx; simpa [List.getElem?_drop] using this
        have hyi : ys[i]? = some y := by have := congrArg (fun l : List Fv => l[0]?) hy; simpa [List.getElem?_drop] using this
        have hx1 : xs.drop (i + 1) = xr := by rw [← List.drop_drop, hx]; rfl
        have hy1 : ys.drop (i + 1) = yr := by rw [← List.drop_drop, hy]; rfl
        have p1 : (part f.type (xs.map Fv.v).toArray f.offset).run P w = .ok x.v w := run_part_plain w (Fv.plain hok) (by rw [ho]; simp [hxi])
        have p2 : (part f.type (ys.map Fv.v).toArray f.offset).run P w = .ok y.v w := run_part_plain w (Fv.plain hok) (by rw [ho]; simp [hyi])
        have ihh := ih xr yr (i + 1) hx1 hy1 hr hs.2
        have hs1 : String.ofList [Char.ofNat 95] = "_" := by decide
        rw [hs1] at hn
        have hn' : (f.name == "_") = false := by simpa using hn
        simp only [Op.eqFields, hn', Sem.run_bind, Sem.run_ite, p1, p2, Result.andThen_ok, eqF_one hok hs.1]
        by_cases hxy : x = y
        · simp [hxy, ihh, Result.andThen]
        · have hn2 : f.name ≠ "_" := by simpa using hn'
          simp [hxy, Result.andThen, hn2]
def eqB (P : Program) (t : TypeId) (xs : List Fv) : Bool := !P.stoodInHeld t && !P.eqGuardType P.depth t && flatB P 0 (P.fieldsOf t).toList xs
theorem eq_flat {A : Amb} {P : Program} {t : TypeId} {o1 o2 : Operand} {xs ys : List Fv} (hu : P.underlying t = some (.struct (P.fieldsOf t))) (hb : eqB P t xs = true) (hs : sameAll xs ys = true) {ax ay : Array Value}
    (hx : ax = (xs.map Fv.v).toArray) (hy : ay = (ys.map Fv.v).toArray) {h : Heap} {K : Value → Heap → Prop} (H : K (.bool (decide (xs = ys))) h) :
    RunK A P (do eqGuard .eql t o1 o2 (.agg ax) (.agg ay); binOp .eql t (.agg ax) (.agg ay)) h K := by
  simp only [eqB, Bool.and_eq_true, Bool.not_eq_true'] at hb
  subst hx; subst hy
  refine fun n => ⟨_, h, n, ?_, H⟩
  rw [Sem.run_bind, run_eqGuard_agg _ _ _ _ _ _ _ hb.1.2, Result.andThen_ok, run_eql_struct, run_equalIn_agg _ _ _ _ _ hu hb.1.1, eqF_all xs ys _ _ xs ys 0 rfl rfl hb.2 hs]
  rfl
theorem ne_flat {A : Amb} {P : Program} {t : TypeId} {o1 o2 : Operand} {xs ys : List Fv} (hu : P.underlying t = some (.struct (P.fieldsOf t))) (hb : eqB P t xs = true) (hs : sameAll xs ys = true) {ax ay : Array Value}
    (hx : ax = (xs.map Fv.v).toArray) (hy : ay = (ys.map Fv.v).toArray) {h : Heap} {K : Value → Heap → Prop} (H : K (.bool (!decide (xs = ys))) h) :
    RunK A P (do eqGuard .neq t o1 o2 (.agg ax) (.agg ay); binOp .neq t (.agg ax) (.agg ay)) h K := by
  simp only [eqB, Bool.and_eq_true, Bool.not_eq_true'] at hb
  subst hx; subst hy
  refine fun n => ⟨_, h, n, ?_, H⟩
  rw [Sem.run_bind, run_eqGuard_agg _ _ _ _ _ _ _ hb.1.2, Result.andThen_ok, run_neq_struct, run_equalIn_agg _ _ _ _ _ hu hb.1.1, eqF_all xs ys _ _ xs ys 0 rfl rfl hb.2 hs]
  rfl

/-! ### variables of several cells -/
/-- the cells of a block are stored, one behind the other -/
theorem Store.two {h : Heap} {b : Nat} {T : TypeId} {e0 e1 v0 v1 : Value} {K : Heap → Prop} (hb : h[b]? = some (.cells #[e0, e1] T (0, 0)))
    (H : ∀ h', h'[b]? = some (.cells #[v0, v1] T (0, 0)) → Mod (· = b) h h' → h'.size = h.size → K h') :
    Store h ⟨b, 0, none⟩ v0 fun h1 => Store h1 ((⟨b, 0, none⟩ : Addr).add 1) v1 K := by
  refine Store.mk hb (by simp) fun h1 hb1 m1 s1 => ?_
  rw [add_mk]
  refine Store.mk hb1 (by simp) fun h2 hb2 m2 s2 => H h2 (by simpa using hb2) (m1.trans m2) (by omega)
theorem Store.six {h : Heap} {b : Nat} {T : TypeId} {e0 e1 e2 e3 e4 e5 v0 v1 v2 v3 v4 v5 : Value} {K : Heap → Prop} (hb : h[b]? = some (.cells #[e0, e1, e2, e3, e4, e5] T (0, 0)))
    (H : ∀ h', h'[b]? = some (.cells #[v0, v1, v2, v3, v4, v5] T (0, 0)) → Mod (· = b) h h' → h'.size = h.size → K h') :
    Store h ⟨b, 0, none⟩ v0 fun h1 => Store h1 ((⟨b, 0, none⟩ : Addr).add 1) v1 fun h2 => Store h2 ((⟨b, 0, none⟩ : Addr).add 2) v2 fun h3 => Store h3 ((⟨b, 0, none⟩ : Addr).add 3) v3 fun h4 => Store h4 ((⟨b, 0, none⟩ : Addr).add 4) v4 fun h5 =>
      Store h5 ((⟨b, 0, none⟩ : Addr).add 5) v5 K := by
  refine Store.mk hb (by simp) fun h1 hb1 m1 s1 => ?_
  rw [add_mk, add_mk, add_mk, add_mk, add_mk]
  refine Store.mk hb1 (by simp) fun h2 hb2 m2 s2 => ?_
  refine Store.mk hb2 (by simp) fun h3 hb3 m3 s3 => ?_
  refine Store.mk hb3 (by simp) fun h4 hb4 m4 s4 => ?_
  refine Store.mk hb4 (by simp) fun h5 hb5 m5 s5 => ?_
  refine Store.mk hb5 (by simp) fun h6 hb6 m6 s6 => H h6 (by simpa using hb6) (((((m1.trans m2).trans m3).trans m4).trans m5).trans m6) (by omega)
theorem Store.eight {h : Heap} {b : Nat} {T : TypeId} {e0 e1 e2 e3 e4 e5 e6 e7 v0 v1 v2 v3 v4 v5 v6 v7 : Value} {K : Heap → Prop} (hb : h[b]? = some (.cells #[e0, e1, e2, e3, e4, e5, e6, e7] T (0, 0)))
    (H : ∀ h', h'[b]? = some (.cells #[v0, v1, v2, v3, v4, v5, v6, v7] T (0, 0)) → Mod (· = b) h h' → h'.size = h.size → K h') :
    Store h ⟨b, 0, none⟩ v0 fun h1 => Store h1 ((⟨b, 0, none⟩ : Addr).add 1) v1 fun h2 => Store h2 ((⟨b, 0, none⟩ : Addr).add 2) v2 fun h3 => Store h3 ((⟨b, 0, none⟩ : Addr).add 3) v3 fun h4 => Store h4 ((⟨b, 0, none⟩ : Addr).add 4) v4 fun h5 =>
      Store h5 ((⟨b, 0, none⟩ : Addr).add 5) v5 fun h6 => Store h6 ((⟨b, 0, none⟩ : Addr).add 6) v6 fun h7 => Store h7 ((⟨b, 0, none⟩ : Addr).add 7) v7 K := by
  refine Store.mk hb (by simp) fun h1 hb1 m1 s1 => ?_
  rw [add_mk, add_mk, add_mk, add_mk, add_mk, add_mk, add_mk]
  refine Store.mk hb1 (by simp) fun h2 hb2 m2 s2 => ?_
  refine Store.mk hb2 (by simp) fun h3 hb3 m3 s3 => ?_
  refine Store.mk hb3 (by simp) fun h4 hb4 m4 s4 => ?_
  refine Store.mk hb4 (by simp) fun h5 hb5 m5 s5 => ?_
  refine Store.mk hb5 (by simp) fun h6 hb6 m6 s6 => ?_
  refine Store.mk hb6 (by simp) fun h7 hb7 m7 s7 => ?_
  refine Store.mk hb7 (by simp) fun h8 hb8 m8 s8 => H h8 (by simpa using hb8) (((((((m1.trans m2).trans m3).trans m4).trans m5).trans m6).trans m7).trans m8) (by omega)
/-- one cell of a variable -/
theorem Store.at1 {h : Heap} {b j : Nat} {v : Value} {cs cs' : Array Value} {T : TypeId} {K : Heap → Prop} (hb : h[b]? = some (.cells cs T (0, 0))) (hj : j < cs.size) (hc : cs.setIfInBounds j v = cs')
    (H : ∀ h', h'[b]? = some (.cells cs' T (0, 0)) → Mod (· = b) h h' → h'.size = h.size → K h') : Store h ((⟨b, 0, none⟩ : Addr).add j) v K := by
  rw [add_mk, Nat.zero_add]
  exact Store.mk hb hj fun h1 hb1 => H h1 (by rw [← hc]; exact hb1)
end Go.Lf

/-
  Plain law, no program in sight: events and histories as bytes (chapter 13).
-/
set_option maxRecDepth 100000
set_option linter.unusedVariables false
set_option linter.unusedSimpArgs false
namespace Go.Lf
open Go

structure Ev where
  id : Int
  kind : Int
  tick : Int
  ref : Int
  step : Int
  turn : Int
  undo : Bool
  data : ByteArray
def EvE : Enc Ev where
  enc x := [.int .i64 x.id, .int .i64 x.kind, .int .i64 x.tick, .int .i64 x.ref, .int .i64 x.step, .int .i64 x.turn, .bool x.undo, .string x.data]
  w := 8
  len _ := rfl
  pos := by omega
  one x v hv := by simp at hv; rcases hv with rfl | rfl | rfl | rfl | rfl | rfl | rfl | rfl <;> rfl
def Ev.fv (x : Ev) : List Fv := [.i x.id, .i x.kind, .i x.tick, .i x.ref, .i x.step, .i x.turn, .b x.undo, .s x.data]
theorem Ev.fv_inj {x y : Ev} : x.fv = y.fv ↔ x = y := by
  cases x; cases y; simp [Ev.fv]
instance : DecidableEq Ev := fun x y => decidable_of_iff (x.fv = y.fv) Ev.fv_inj

/-! ### the fields of a kind -/
def flR (k : Int) : Bool := decide (k = 3 ∨ k = 4 ∨ k = 5 ∨ k = 11 ∨ k = 7 ∨ k = 8 ∨ k = 9)
def flS (k : Int) : Bool := decide (k = 6 ∨ k = 10)
def flT (k : Int) : Bool := decide (k = 7 ∨ k = 8 ∨ k = 9)
def flU (k : Int) : Bool := decide (k = 6)
def flD (k : Int) : Bool := decide (k = 1 ∨ k = 12)
def inE (f : Bool) (n lo hi : Int) : Bool := if f then inI n lo hi else decide (n = 0)
def evHead (e : Ev) : Bool := inI e.kind 1 18 && inI e.id 1 500 && inI e.tick 0 1099511627776 && inE (flR e.kind) e.ref 1 (e.id - 1) && inE (flS e.kind) e.step 0 15 && inE (flT e.kind) e.turn 1 5 &&
  (!e.undo || flU e.kind) && (decide (e.data = bs0') || flD e.kind)
def evTail (e : Ev) : Bool := if e.kind = 1 then (decPrg (bl e.data)).isSome else if e.kind = 12 then nameOK e.data else true
def evOK (e : Ev) : Bool := evHead e && evTail e
def optP (f : Bool) (n : Int) : List UInt8 := if f then putV n.toNat else []
def optT (f : Bool) (s : ByteArray) : List UInt8 := if f then textL (bl s) else []
def encEv (e : Ev) : List UInt8 := putV e.id.toNat ++ (putV e.kind.toNat ++ (putV e.tick.toNat ++ (optP (flR e.kind) e.ref ++ (optP (flS e.kind) e.step ++ (optP (flT e.kind) e.turn ++ (optP (flU e.kind) (if e.undo then 1 else 0) ++ optT (flD e.kind) e.data))))))

structure EvB where
  id : Nat
  kind : Nat
  tick : Nat
  ref : Nat
  step : Nat
  turn : Nat
def EvB.wide (b : EvB) : Prop := 500 ≤ b.id ∧ 18 ≤ b.kind ∧ 1099511627776 ≤ b.tick ∧ 500 ≤ b.ref ∧ 15 ≤ b.step ∧ 5 ≤ b.turn
def evB : EvB := ⟨500, 18, 1099511627776, 500, 15, 5⟩
def optI (f : Bool) (m : Nat) (r : Rd) : Nat × Rd := if f then intR m r else (0, r)
def optX (f : Bool) (r : Rd) : List UInt8 × Rd := if f then textR r else ([], r)
def rdEv (b : EvB) (r : Rd) : Ev × Rd :=
  let i := intR b.id r
  let k := intR b.kind i.2
  let t := intR b.tick k.2
  let a := optI (flR k.1) b.ref t.2
  let s := optI (flS k.1) b.step a.2
  let n := optI (flT k.1) b.turn s.2
  let u := optI (flU k.1) 1 n.2
  let d := optX (flD k.1) u.2
  (⟨i.1, k.1, t.1, a.1, s.1, n.1, decide (u.1 = 1), strL d.1⟩, d.2)
def decEv (l : List UInt8) : Option Ev := let x := rdEv evB ⟨l, false⟩; if endR x.2 && evOK x.1 then some x.1 else none

theorem optI_put {f : Bool} {n : Int} {m : Nat} (h : inE f n 0 m = true) (hm : m < 18446744073709551616) (t : List UInt8) : optI f m ⟨optP f n ++ t, false⟩ = (n.toNat, ⟨t, false⟩) := by
  cases f with
  | false => simp [inE] at h; subst h; rfl
  | true =>
    simp only [inE, if_true, inI_iff] at h
    simp only [optI, optP, if_true]
    exact intR_put (by omega) (by omega) t
theorem inE_weak {f : Bool} {n lo hi lo' hi' : Int} (h : inE f n lo hi = true) (h1 : lo' ≤ lo) (h2 : hi ≤ hi') : inE f n lo' hi' = true := by
  cases f with
  | false => exact h
  | true => simp only [inE, if_true, inI_iff] at h ⊢; omega
theorem inE_nat {f : Bool} {n lo hi : Int} (h : inE f n lo hi = true) (h0 : 0 ≤ lo) : ((n.toNat : Nat) : Int) = n := by
  cases f with
  | false => simp [inE] at h; subst h; rfl
  | true => simp only [inE, if_true, inI_iff] at h; omega
theorem optX_put {f : Bool} {s : ByteArray} (h : (decide (s = bs0') || f) = true) (hs : s.size < 18446744073709551616) (t : List UInt8) : optX f ⟨optT f s ++ t, false⟩ = (bl s, ⟨t, false⟩) := by
  cases f with
  | false => simp at h; subst h; rfl
  | true =>
    simp only [optX, optT, if_true]
    exact textR_put (by rw [bl_size]; exact hs) t

theorem evOK_head {e : Ev} (h : evOK e = true) : evHead e = true := by simp only [evOK, Bool.and_eq_true] at h; exact h.1
theorem rdEv_enc {b : EvB} (hb : b.wide) (hi : b.ref < 18446744073709551616 ∧ b.step < 18446744073709551616 ∧ b.turn < 18446744073709551616) {e : Ev} (he : evHead e = true) (hd : e.data.size < 18446744073709551616) (t : List UInt8) : rdEv b ⟨encEv e ++ t, false⟩ = (e, ⟨t, false⟩) := by
  obtain ⟨id, kind, tick, ref, step, turn, undo, data⟩ := e
  simp only [evHead, Bool.and_eq_true] at he
  obtain ⟨⟨⟨⟨⟨⟨⟨hk, hid⟩, htk⟩, hr⟩, hs⟩, ht⟩, hu⟩, hx⟩ := he
  obtain ⟨b1, b2, b3, b4, b5, b6⟩ := hb
  have hk' := inI_iff.1 hk
  have hid' := inI_iff.1 hid
  have htk' := inI_iff.1 htk
  have e1 := intR_put (n := id.toNat) (most := b.id) (by omega) (by omega)
  have e2 := intR_put (n := kind.toNat) (most := b.kind) (by omega) (by omega)
  have e3 := intR_put (n := tick.toNat) (most := b.tick) (by omega) (by omega)
  have ek : ((kind.toNat : Nat) : Int) = kind := by omega
  have e4 := optI_put (f := flR kind) (n := ref) (m := b.ref) (inE_weak hr (by omega) (by omega)) hi.1
  have e5 := optI_put (f := flS kind) (n := step) (m := b.step) (inE_weak hs (by omega) (by omega)) hi.2.1
  have e6 := optI_put (f := flT kind) (n := turn) (m := b.turn) (inE_weak ht (by omega) (by omega)) hi.2.2
  have e7 := optI_put (f := flU kind) (n := if undo then 1 else 0) (m := 1) (by
    cases hf : flU kind with
    | true => simp only [inE, if_true, inI_iff]; split <;> omega
    | false => rw [hf] at hu; cases undo <;> simp [inE] at hu ⊢) (by decide)
  have e8 := optX_put (f := flD kind) (s := data) hx hd
  simp only [rdEv, encEv, List.append_assoc, e1, e2, e3, ek, e4, e5, e6, e7, e8]
  have eu : decide ((if undo = true then (1 : Int) else 0).toNat = 1) = undo := by cases undo <;> rfl
  have s1 := inE_nat hr (by decide)
  have s2 := inE_nat hs (by decide)
  have s3 := inE_nat ht (by decide)
  have s4 : ((id.toNat : Nat) : Int) = id := by omega
  have s5 : ((tick.toNat : Nat) : Int) = tick := by omega
  rw [eu, s1, s2, s3, s4, s5, strL_of]

theorem optI_good {f : Bool} {m : Nat} {r : Rd} (h : (optI f m r).2.bad = false) : r.bad = false ∧ r.rest = optP f (optI f m r).1 ++ (optI f m r).2.rest ∧ (optI f m r).1 ≤ m := by
  cases f with
  | false => exact ⟨h, rfl, Nat.zero_le _⟩
  | true =>
    simp only [optI, optP, if_true, Int.toNat_natCast] at h ⊢
    exact intR_good h
theorem optX_good {f : Bool} {r : Rd} (h : (optX f r).2.bad = false) : r.bad = false ∧ r.rest = optT f (strL (optX f r).1) ++ (optX f r).2.rest := by
  cases f with
  | false => exact ⟨h, rfl⟩
  | true =>
    simp only [optX, optT, if_true, bl_strL] at h ⊢
    exact textR_good h
theorem rdEv_good {b : EvB} {r : Rd} (h : (rdEv b r).2.bad = false) : r.bad = false ∧ r.rest = encEv (rdEv b r).1 ++ (rdEv b r).2.rest := by
  simp only [rdEv] at h ⊢
  obtain ⟨d1, d2⟩ := optX_good h
  obtain ⟨u1, u2, u3⟩ := optI_good d1
  obtain ⟨n1, n2, _⟩ := optI_good u1
  obtain ⟨s1, s2, _⟩ := optI_good n1
  obtain ⟨a1, a2, _⟩ := optI_good s1
  obtain ⟨t1, t2, _⟩ := intR_good a1
  obtain ⟨k1, k2, _⟩ := intR_good t1
  obtain ⟨i1, i2, _⟩ := intR_good k1
  refine ⟨i1, ?_⟩
  simp only [encEv, List.append_assoc, Int.toNat_natCast]
  rw [← d2]
  have eu : ∀ n : Nat, n ≤ 1 → (if decide (n = 1) = true then (1 : Int) else 0) = (n : Int) := fun n hn => by
    have : n = 0 ∨ n = 1 := by omega
    rcases this with rfl | rfl <;> rfl
  rw [eu _ u3, ← u2, ← n2, ← s2, ← a2, ← t2, ← k2, ← i2]

theorem decEv_some {l : List UInt8} {e : Ev} (h : decEv l = some e) : evOK e = true ∧ encEv e = l := by
  unfold decEv at h
  simp only at h
  split at h
  · rename_i hq
    simp only [Bool.and_eq_true] at hq
    obtain ⟨he, hok⟩ := hq
    obtain rfl := Option.some.inj h
    refine ⟨hok, ?_⟩
    rw [endR_iff] at he
    obtain ⟨_, h2⟩ := rdEv_good (b := evB) (r := ⟨l, false⟩) (by rw [he])
    rw [he] at h2
    simpa using h2.symm
  · cases h
theorem evB_wide : evB.wide := ⟨Nat.le_refl _, Nat.le_refl _, Nat.le_refl _, Nat.le_refl _, Nat.le_refl _, Nat.le_refl _⟩
theorem encEv_data {e : Ev} (h : evHead e = true) : e.data.size ≤ (encEv e).length := by
  simp only [evHead, Bool.and_eq_true] at h
  have hx := h.2
  cases hf : flD e.kind with
  | false =>
    rw [hf] at hx
    simp at hx
    rw [hx]
    exact Nat.zero_le _
  | true =>
    simp only [encEv, optT, hf, if_true, textL, List.length_append, bl_size]
    omega
theorem decEv_iff {l : List UInt8} {e : Ev} (hl : l.length < 18446744073709551616) : decEv l = some e ↔ evOK e = true ∧ encEv e = l := by
  refine ⟨decEv_some, fun ⟨h1, h2⟩ => ?_⟩
  have h3 := encEv_data (evOK_head h1)
  have := rdEv_enc evB_wide ⟨by decide, by decide, by decide⟩ (evOK_head h1) (by rw [h2] at h3; omega) []
  rw [List.append_nil, h2] at this
  unfold decEv
  simp only [this, h1]
  rfl
theorem decEv_wide {b : EvB} (hb : b.wide) (hi : b.ref < 18446744073709551616 ∧ b.step < 18446744073709551616 ∧ b.turn < 18446744073709551616) {l : List UInt8} (hl : l.length < 18446744073709551616) :
    decEv l = if evOK (rdEv b ⟨l, false⟩).1 = true ∧ endR (rdEv b ⟨l, false⟩).2 = true ∧ encEv (rdEv b ⟨l, false⟩).1 = l then some (rdEv b ⟨l, false⟩).1 else none := by
  split
  · rename_i h
    exact (decEv_iff hl).2 ⟨h.1, h.2.2⟩
  · rename_i h
    cases hd : decEv l with
    | none => rfl
    | some e =>
      exfalso
      obtain ⟨h4, h6⟩ := decEv_some hd
      have h3 := encEv_data (evOK_head h4)
      have := rdEv_enc hb hi (evOK_head h4) (by rw [h6] at h3; omega) []
      rw [List.append_nil, h6] at this
      rw [this] at h
      exact h ⟨h4, rfl, h6⟩

/-! ### histories -/
def encEvs (l : List Ev) : List UInt8 := putV l.length ++ l.flatMap fun e => textL (encEv e)
/-- errno, and a history's bytes -/
def packEv (l : List Ev) : Nat × List UInt8 := if 500 < l.length then (2, []) else if l.all evOK then (0, encEvs l) else (120, [])
def rdEvs : Nat → Rd → Option (List Ev × Rd)
  | 0, r => some ([], r)
  | n + 1, r => match decEv (textR r).1 with
    | none => none
    | some e => match rdEvs n (textR r).2 with
      | none => none
      | some (l, r') => some (e :: l, r')
def unpackEv (l : List UInt8) : Option (List Ev) :=
  let n := intR 500 ⟨l, false⟩
  match rdEvs n.1 n.2 with
  | none => none
  | some (l', r) => if endR r then some l' else none
theorem rdEvs_enc (t : List UInt8) : ∀ {l : List Ev}, l.all evOK = true → (∀ e ∈ l, (encEv e).length < 18446744073709551616) → rdEvs l.length ⟨(l.flatMap fun e => textL (encEv e)) ++ t, false⟩ = some (l, ⟨t, false⟩)
  | [], _, _ => rfl
  | e :: l, h, hs => by
    simp only [List.all_cons, Bool.and_eq_true] at h
    have h1 := hs e (by simp)
    have e1 := textR_put (l := encEv e) h1
    have e2 := (decEv_iff h1).2 ⟨h.1, rfl⟩
    have e3 := rdEvs_enc t h.2 fun x hx => hs x (List.mem_cons_of_mem _ hx)
    simp only [List.length_cons, rdEvs, List.flatMap_cons, List.append_assoc, e1, e2, e3]
theorem unpack_pack {l : List Ev} (hl : l.length ≤ 500) (h : l.all evOK = true) (hs : ∀ e ∈ l, (encEv e).length < 18446744073709551616) : unpackEv (encEvs l) = some l := by
  have e1 := intR_put (n := l.length) (most := 500) (by omega) hl
  have e2 := rdEvs_enc [] h hs
  rw [List.append_nil] at e2
  simp only [unpackEv, encEvs, e1, e2]
  rfl
end Go.Lf

/-
  Rows: an argument that is a list of events, opened.
-/
set_option maxRecDepth 100000
set_option linter.unusedVariables false
set_option linter.unusedSimpArgs false
namespace Go.Lf.G
open Go Go.ChangeShapes Go.WideShapes Go.ChangeAt Go.RowKit Go.Proofs.Ytcaiammecilkeaa

def fieldsOf (P : Program) (t : TypeId) : Option (List (TypeId × Nat)) := match P.underlying t with
  | some (.struct fs) => some (fs.toList.map fun f => (f.type, f.offset))
  | _ => none

section
variable {H : Type} {enc : TypeId × Value → H} {w : World} {base : Nat} {spare : Nat → Bool} {held : Bool}
theorem open_fields {t : TypeId} {fts : List (TypeId × Nat)} {n : Nat} {cs : List Value} {x : DataW H × List MemPlace} (ht : fieldsOf P t = some fts) (h : DataW.trod enc P w base spare held n t cs = some x) :
    ∃ (xs : List (DataW H × List MemPlace)) (m : Nat), x = (.agg (xs.map (·.1)), xs.flatMap (·.2)) ∧ cs.length = P.cellsOf t ∧ xs.length = fts.length ∧
      ∀ (i : Nat) (f : TypeId × Nat), fts[i]? = some f → DataW.trod enc P w base spare held m f.1 ((cs.drop f.2).take (P.cellsOf f.1)) = xs[i]? := by
  unfold fieldsOf at ht
  split at ht
  · rename_i fs hfs
    simp at ht
    subst ht
    obtain ⟨xs, m, _, rfl, h1, h2, h3⟩ := DataW.trod_struct hfs h
    refine ⟨xs, m, rfl, h1, by simpa using h2, fun i f hf => ?_⟩
    simp only [List.getElem?_map, Option.map_eq_some_iff, Array.getElem?_toList] at hf
    obtain ⟨g, hg, rfl⟩ := hf
    exact h3 i g hg
  · cases ht

theorem P_evf : fieldsOf P t_api_Event = some [(t_int, 0), (t_int, 1), (t_int, 2), (t_int, 3), (t_int, 4), (t_int, 5), (t_bool, 6), (t_string, 7)] := by kernel_rfl
theorem P_cev : P.cellsOf t_api_Event = 8 := by kernel_rfl
theorem P_cb : P.cellsOf t_bool = 1 := by kernel_rfl
theorem P_slev : P.underlying t_sl_api_Event = some (.slice t_api_Event) := by kernel_rfl

theorem open_ev {n : Nat} {cs : List Value} {x : DataW H × List MemPlace} (h : DataW.trod enc P w base spare held n t_api_Event cs = some x) : ∃ e : Ev, cs = EvE.enc e ∧ e.data.size + 1 ≤ Rows.uptoBulk x.1 := by
  obtain ⟨xs, m, rfl, h1, h2, h3⟩ := open_fields P_evf h
  rw [P_cev] at h1
  match cs, h1 with
  | [c0, c1, c2, c3, c4, c5, c6, c7], _ =>
    match xs, h2 with
    | [x0, x1, x2, x3, x4, x5, x6, x7], _ =>
      have k0 := h3 0 _ rfl
      have k1 := h3 1 _ rfl
      have k2 := h3 2 _ rfl
      have k3 := h3 3 _ rfl
      have k4 := h3 4 _ rfl
      have k5 := h3 5 _ rfl
      have k6 := h3 6 _ rfl
      have k7 := h3 7 _ rfl
      simp only [P_ci, P_cb, P_cs] at k0 k1 k2 k3 k4 k5 k6 k7
      obtain ⟨n0, e0, _, _⟩ := DataW.trod_int P_int k0
      obtain ⟨n1, e1, _, _⟩ := DataW.trod_int P_int k1
      obtain ⟨n2, e2, _, _⟩ := DataW.trod_int P_int k2
      obtain ⟨n3, e3, _, _⟩ := DataW.trod_int P_int k3
      obtain ⟨n4, e4, _, _⟩ := DataW.trod_int P_int k4
      obtain ⟨n5, e5, _, _⟩ := DataW.trod_int P_int k5
      obtain ⟨b6, e6, _⟩ := DataW.trod_bool P_bool k6
      obtain ⟨s7, e7, q7, _⟩ := DataW.trod_string P_str' k7
      simp at e0 e1 e2 e3 e4 e5 e6 e7
      subst e0 e1 e2 e3 e4 e5 e6 e7
      refine ⟨⟨n0, n1, n2, n3, n4, n5, b6, s7⟩, rfl, ?_⟩
      rw [q7]
      have : s7.data.toList.length = s7.size := by rw [Array.length_toList]; rfl
      simp only [List.map_cons, List.map_nil, Rows.uptoBulk, Rows.uptoBulkAll]
      omega

theorem open_evs {n : Nat} {p : Option Addr} {len cap : Nat} {x : DataW H × List MemPlace} (h : DataW.trod enc P w base spare held n t_sl_api_Event [.slice p len cap] = some x) :
    ∃ l : List Ev, View EvE w.heap ⟨p, len, cap⟩ l ∧ (l.map (·.data.size + 1)).sum + 1 ≤ Rows.uptoBulk x.1 := by
  obtain ⟨l, ds, V, hl, hq, hb⟩ := open_sl (E := EvE) (Q := fun y d => y.data.size + 1 ≤ Rows.uptoBulk d) P_slev P_cev (fun n cs x hx => open_ev hx) h
  have := sum_bulk (f := fun y : Ev => y.data.size + 1) hl hq
  exact ⟨l, V, by omega⟩
end

theorem arg_evs {H : Type} {enc : TypeId × Value → H} {W : World} {base : Nat} {v : Value} {d : DataW H} {ps : List MemPlace} (hv : Value.okWide P W .any base t_sl_api_Event v) (h : DataW.Trod enc P W 0 (fun _ => true) true t_sl_api_Event v d ps) :
    ∃ (s : Sl) (l : List Ev), v = .slice s.p s.len s.cap ∧ View EvE W.heap s l ∧ (l.map (·.data.size + 1)).sum + 1 ≤ Rows.uptoBulk d := by
  obtain ⟨p, len, cap, rfl⟩ := okWide_slice P_slev hv
  obtain ⟨n, hn⟩ := h
  obtain ⟨l, h1, h2⟩ := open_evs hn
  exact ⟨⟨p, len, cap⟩, l, rfl, h1, h2⟩
theorem sum_memE {l : List Ev} {x : Ev} (h : x ∈ l) : x.data.size + 1 ≤ (l.map (·.data.size + 1)).sum := by
  induction l with
  | nil => cases h
  | cons y l ih =>
    simp only [List.map_cons, List.sum_cons]
    rcases List.mem_cons.1 h with rfl | h
    · omega
    · have := ih h; omega
theorem sum_lenE (l : List Ev) : l.length ≤ (l.map (·.data.size + 1)).sum := by
  induction l with
  | nil => simp
  | cons y l ih => simp only [List.map_cons, List.sum_cons, List.length_cons]; omega
end Go.Lf.G

/-
  Plain law: a box of files (chapter 3).
-/
set_option maxRecDepth 100000
namespace Go.Lf
open Go

abbrev bs0 : ByteArray := ⟨#[]⟩

theorem sz0 : ByteArray.size ⟨#[]⟩ = 0 := rfl

structure Fi where
  name : ByteArray
  firm : ByteArray
  soft : ByteArray
deriving DecidableEq

def FiE : Enc Fi where
  enc x := [.string x.name, .string x.firm, .string x.soft]
  w := 3
  len _ := rfl
  pos := by omega
  one x v hv := by simp at hv; rcases hv with rfl | rfl | rfl <;> rfl
theorem Cells.fi {h : Heap} {a : Addr} {x : Fi} (c : Cells h a (FiE.enc x)) : hget h a = some (.string x.name) ∧ hget h (a.add 1) = some (.string x.firm) ∧ hget h (a.add 2) = some (.string x.soft) := by
  have h0 := c 0 _ rfl
  rw [add_zero] at h0
  exact ⟨h0, c 1 _ rfl, c 2 _ rfl⟩

def SortedF (l : List Fi) : Prop := l.Pairwise fun a b => sLt a.name b.name = true
def findF (k : ByteArray) (l : List Fi) : Option Fi := l.find? fun f => decide (f.name = k)
def updF (k : ByteArray) (g : Fi → Fi) (l : List Fi) : List Fi := l.map fun f => if f.name = k then g f else f
def delF (k : ByteArray) (l : List Fi) : List Fi := l.filter fun f => !decide (f.name = k)
def insF (x : Fi) : List Fi → List Fi
  | [] => [x]
  | q :: l => if sLt q.name x.name then q :: insF x l else x :: q :: l
def atF (k : ByteArray) (l : List Fi) : Nat := (l.takeWhile fun f => sLt f.name k).length
def wtF (l : List Fi) : Nat := (l.map fun f => f.firm.size + f.soft.size + 1).sum

theorem findF_cons (k : ByteArray) (x : Fi) (l : List Fi) : findF k (x :: l) = if x.name = k then some x else findF k l := by
  unfold findF; rw [List.find?_cons]; by_cases h : x.name = k <;> simp [h]
theorem findF_some {k : ByteArray} {l : List Fi} {x : Fi} (h : findF k l = some x) : x.name = k ∧ x ∈ l := by
  unfold findF at h
  exact ⟨by simpa using List.find?_some h, List.mem_of_find?_eq_some h⟩
theorem findF_none {k : ByteArray} {l : List Fi} (h : findF k l = none) : ∀ x ∈ l, x.name ≠ k := by
  unfold findF at h; rw [List.find?_eq_none] at h; simpa using h
theorem findF_none' {k : ByteArray} {l : List Fi} (h : ∀ x ∈ l, x.name ≠ k) : findF k l = none := by
  unfold findF; rw [List.find?_eq_none]; simpa using h
theorem SortedF.find {l : List Fi} (s : SortedF l) {x : Fi} (hx : x ∈ l) : findF x.name l = some x := by
  induction l with
  | nil => cases hx
  | cons y l ih =>
    rw [findF_cons]
    have s' := List.pairwise_cons.1 s
    rcases List.mem_cons.1 hx with rfl | hx
    · simp
    · rw [if_neg (lt_ne (s'.1 x hx))]; exact ih s'.2 hx

theorem insF_perm (x : Fi) : ∀ l, (insF x l).Perm (x :: l)
  | [] => List.Perm.refl _
  | q :: l => by
    unfold insF
    split
    · exact ((insF_perm x l).cons q).trans (List.Perm.swap x q l)
    · exact List.Perm.refl _
theorem insF_sorted {x : Fi} : ∀ {l : List Fi}, SortedF l → (∀ y ∈ l, y.name ≠ x.name) → SortedF (insF x l)
  | [], _, _ => List.pairwise_singleton _ _
  | q :: l, s, hn => by
    have s' := List.pairwise_cons.1 s
    unfold insF
    split
    · rename_i h
      refine List.pairwise_cons.2 ⟨fun y hy => ?_, insF_sorted s'.2 fun y hy => hn y (List.mem_cons_of_mem _ hy)⟩
      rcases List.mem_cons.1 ((insF_perm x l).subset hy) with rfl | hy
      · exact h
      · exact s'.1 y hy
    · rename_i h
      have hlt : sLt x.name q.name = true := by
        cases h2 : sLt x.name q.name
        · exact absurd (sLt_tri (by simpa using h) h2) (hn q List.mem_cons_self)
        · rfl
      refine List.pairwise_cons.2 ⟨fun y hy => ?_, s⟩
      rcases List.mem_cons.1 hy with rfl | hy
      · exact hlt
      · exact sLt_trans hlt (s'.1 y hy)
theorem updF_names {k : ByteArray} {g : Fi → Fi} (hg : ∀ f, (g f).name = f.name) (l : List Fi) : (updF k g l).map (·.name) = l.map (·.name) := by
  unfold updF
  rw [List.map_map]
  refine List.map_congr_left fun f _ => ?_
  simp only [Function.comp]
  split <;> simp [hg]
theorem sortedF_iff {l : List Fi} : SortedF l ↔ SortedS (l.map (·.name)) := by unfold SortedF SortedS; rw [List.pairwise_map]
theorem updF_sorted {k : ByteArray} {g : Fi → Fi} (hg : ∀ f, (g f).name = f.name) {l : List Fi} (s : SortedF l) : SortedF (updF k g l) := by
  rw [sortedF_iff, updF_names hg]; exact sortedF_iff.1 s
theorem delF_sorted {k : ByteArray} {l : List Fi} (s : SortedF l) : SortedF (delF k l) := s.sublist List.filter_sublist
theorem findF_upd {k c : ByteArray} {g : Fi → Fi} (hg : ∀ f, (g f).name = f.name) : ∀ l : List Fi, findF c (updF k g l) = (findF c l).map fun f => if f.name = k then g f else f
  | [] => rfl
  | x :: l => by
    show findF c ((if x.name = k then g x else x) :: updF k g l) = _
    rw [findF_cons, findF_cons, findF_upd hg l]
    have : (if x.name = k then g x else x).name = x.name := by split <;> simp [hg]
    rw [this]
    by_cases h : x.name = c <;> simp [h]
theorem findF_del {k c : ByteArray} : ∀ l : List Fi, findF c (delF k l) = if c = k then none else findF c l
  | [] => by simp [delF, findF]
  | x :: l => by
    have ih := findF_del (k := k) (c := c) l
    unfold delF at ih ⊢
    rw [List.filter_cons, findF_cons]
    by_cases h1 : x.name = k
    · simp only [h1, decide_true, Bool.not_true, Bool.false_eq_true, if_false]
      rw [ih]
      by_cases h2 : c = k
      · simp [h2]
      · simp [h2, Ne.symm h2]
    · simp only [h1, decide_false, Bool.not_false, if_true]
      rw [findF_cons, ih]
      by_cases h2 : c = k
      · subst h2; simp [h1]
      · simp [h2]
theorem findF_ins {x : Fi} {c : ByteArray} : ∀ {l : List Fi}, (∀ y ∈ l, y.name ≠ x.name) → findF c (insF x l) = if x.name = c then some x else findF c l
  | [], _ => by show findF c [x] = _; rw [findF_cons]
  | q :: l, hn => by
    unfold insF
    split
    · rw [findF_cons, findF_ins fun y hy => hn y (List.mem_cons_of_mem _ hy), findF_cons]
      by_cases h1 : q.name = c
      · simp [h1]
        intro h2
        exact absurd (h1.trans h2.symm) (hn q List.mem_cons_self)
      · simp [h1]
    · rw [findF_cons]

theorem wtF_cons (x : Fi) (l : List Fi) : wtF (x :: l) = x.firm.size + x.soft.size + 1 + wtF l := by simp [wtF]
theorem wtF_perm {l m : List Fi} (h : l.Perm m) : wtF l = wtF m := (h.map _).sum_nat
theorem wtF_ins (x : Fi) (l : List Fi) : wtF (insF x l) = x.firm.size + x.soft.size + 1 + wtF l := by rw [wtF_perm (insF_perm x l), wtF_cons]
theorem wtF_len : ∀ l : List Fi, l.length ≤ wtF l
  | [] => by simp [wtF]
  | x :: l => by rw [wtF_cons, List.length_cons]; have := wtF_len l; omega
theorem wtF_mem {x : Fi} : ∀ {l : List Fi}, x ∈ l → x.firm.size + x.soft.size ≤ wtF l
  | [], h => by cases h
  | y :: l, h => by
    rw [wtF_cons]
    rcases List.mem_cons.1 h with rfl | h
    · omega
    · have := wtF_mem h; omega
theorem wtF_del {k : ByteArray} : ∀ l : List Fi, wtF (delF k l) ≤ wtF l
  | [] => by simp [delF, wtF]
  | x :: l => by
    have := wtF_del (k := k) l
    unfold delF at this ⊢
    rw [List.filter_cons]
    split
    · rw [wtF_cons, wtF_cons]; omega
    · rw [wtF_cons]; omega
/-- a change that adds d at most to the file of a name -/
theorem wtF_upd {k : ByteArray} {g : Fi → Fi} {d : Nat} (hg : ∀ f, (g f).firm.size + (g f).soft.size ≤ f.firm.size + f.soft.size + d) : ∀ {l : List Fi}, SortedF l → wtF (updF k g l) ≤ wtF l + d
  | [], _ => by simp [updF, wtF]
  | x :: l, s => by
    have s' := List.pairwise_cons.1 s
    show wtF ((if x.name = k then g x else x) :: updF k g l) ≤ _
    rw [wtF_cons, wtF_cons]
    split
    · rename_i h
      have : updF k g l = l := by
        unfold updF
        rw [List.map_congr_left (g := id) fun y hy => ?_, List.map_id]
        have := lt_ne (s'.1 y hy)
        rw [if_neg (fun e => this (h.trans e.symm))]; rfl
      rw [this]
      have := hg x
      omega
    · have := wtF_upd hg (k := k) s'.2
      omega

/-! ### places in a list -/
theorem atF_le (k : ByteArray) (l : List Fi) : atF k l ≤ l.length := by unfold atF; exact (List.takeWhile_sublist _).length_le
theorem atF_cons (k : ByteArray) (x : Fi) (l : List Fi) : atF k (x :: l) = if sLt x.name k then atF k l + 1 else 0 := by
  unfold atF; rw [List.takeWhile_cons]; split <;> simp
def thereF (k : ByteArray) (l : List Fi) : Bool := match l[atF k l]? with | some f => decide (f.name = k) | none => false
theorem atF_lt {k : ByteArray} : ∀ {l : List Fi} {i : Nat} {f : Fi}, i < atF k l → l[i]? = some f → sLt f.name k = true
  | [], i, f, h, _ => by simp [atF] at h
  | x :: l, i, f, h, hi => by
    rw [atF_cons] at h
    split at h
    · rename_i hx
      cases i with
      | zero => simp at hi; subst hi; exact hx
      | succ i => exact atF_lt (l := l) (i := i) (by omega) (by simpa using hi)
    · omega
theorem atF_ge {k : ByteArray} : ∀ {l : List Fi} {f : Fi}, l[atF k l]? = some f → sLt f.name k = false
  | [], f, h => by simp at h
  | x :: l, f, h => by
    rw [atF_cons] at h
    split at h
    · exact atF_ge (by simpa using h)
    · rename_i hx; simp at h; subst h; simpa using hx
theorem atF_find {k : ByteArray} : ∀ {l : List Fi}, SortedF l → (findF k l = none ∧ thereF k l = false) ∨ ∃ f, findF k l = some f ∧ thereF k l = true ∧ l[atF k l]? = some f
  | [], _ => .inl ⟨rfl, rfl⟩
  | x :: l, s => by
    have s' := List.pairwise_cons.1 s
    have e : thereF k (x :: l) = if sLt x.name k then thereF k l else decide (x.name = k) := by
      unfold thereF; rw [atF_cons]; by_cases h : sLt x.name k = true <;> simp [h]
    rw [findF_cons, e, atF_cons]
    by_cases h : sLt x.name k = true
    · rw [if_neg (lt_ne h), if_pos h, if_pos h]
      rcases atF_find (k := k) s'.2 with h1 | ⟨f, h1, h2, h3⟩
      · exact .inl h1
      · exact .inr ⟨f, h1, h2, by simpa using h3⟩
    · rw [if_neg h, if_neg h]
      by_cases hk : x.name = k
      · exact .inr ⟨x, by simp [hk], by simp [hk], rfl⟩
      · rw [if_neg hk]
        refine .inl ⟨findF_none' fun y hy e => ?_, by simpa using hk⟩
        have := s'.1 y hy
        rw [e] at this
        exact h this
theorem ins_at {x : Fi} : ∀ (l : List Fi), (l.take (atF x.name l) ++ [x]) ++ l.drop (atF x.name l) = insF x l
  | [] => rfl
  | q :: l => by
    unfold insF
    rw [atF_cons]
    split
    · rw [List.take_succ_cons, List.drop_succ_cons, List.cons_append, List.cons_append, ins_at l]
    · rfl
theorem upd_at {k : ByteArray} {g : Fi → Fi} : ∀ {l : List Fi} {f : Fi}, SortedF l → l[atF k l]? = some f → f.name = k → l.set (atF k l) (g f) = updF k g l
  | [], _, _, h, _ => by simp at h
  | x :: l, f, s, h, hf => by
    have s' := List.pairwise_cons.1 s
    show _ = (if x.name = k then g x else x) :: updF k g l
    rw [atF_cons] at h ⊢
    split
    · rename_i hx
      rw [if_pos hx] at h
      rw [List.set_cons_succ, upd_at s'.2 (by simpa using h) hf, if_neg (lt_ne hx)]
    · rename_i hx
      rw [if_neg hx] at h
      simp at h
      subst h
      rw [List.set_cons_zero, if_pos hf]
      congr 1
      refine ((List.map_congr_left (g := id) fun y hy => ?_).trans (List.map_id _)).symm
      rw [if_neg (fun e => lt_ne (s'.1 y hy) (hf.trans e.symm))]; rfl
theorem del_at {k : ByteArray} : ∀ {l : List Fi} {f : Fi}, SortedF l → l[atF k l]? = some f → f.name = k → l.take (atF k l) ++ l.drop (atF k l + 1) = delF k l
  | [], _, _, h, _ => by simp at h
  | x :: l, f, s, h, hf => by
    have s' := List.pairwise_cons.1 s
    unfold delF
    rw [List.filter_cons]
    rw [atF_cons] at h ⊢
    split at h
    · rename_i hx
      have := lt_ne hx
      rw [if_pos hx]
      simp only [this, decide_false, Bool.not_false, if_true]
      rw [List.take_succ_cons, List.drop_succ_cons, List.cons_append, del_at s'.2 (by simpa using h) hf]
      rfl
    · rename_i hx
      rw [if_neg hx]
      simp at h
      subst h
      simp only [hf, decide_true, Bool.not_true, Bool.false_eq_true, if_false, List.take_zero, List.nil_append, List.drop_succ_cons, Nat.zero_add, List.drop_zero]
      refine (List.filter_eq_self.2 fun y hy => ?_).symm
      have := lt_ne (s'.1 y hy)
      simp only [Bool.not_eq_true', decide_eq_false_iff_not]
      exact fun e => this (hf.trans e.symm)

/-! ### a box -/
structure Bx where
  files : List Fi
  fuel : Int
  down : Bool

def newB : Bx := ⟨[], -1, false⟩
def badName (n : ByteArray) : Bool := decide (n = bs0) || decide (n.size > 32)
def tickB (m : Bx) : Bx := if m.fuel > 0 then { m with fuel := m.fuel - 1 } else m
def offB (m : Bx) : Bx := { m with down := true }
def haveF (name : ByteArray) (l : List Fi) : List Fi := if (findF name l).isSome then l else insF ⟨name, bs0, bs0⟩ l
def addF (data : ByteArray) (f : Fi) : Fi := { f with soft := f.soft ++ data }
def firmF (f : Fi) : Fi := ⟨f.name, f.firm ++ f.soft, bs0⟩
def appendB (m : Bx) (name data : ByteArray) : Int × Bx :=
  if m.down then (30, m) else if badName name then (1, m) else if m.fuel = 0 then (30, offB m) else (0, { tickB m with files := updF name (addF data) (haveF name m.files) })
def syncB (m : Bx) (name : ByteArray) : Int × Bx :=
  if m.down then (30, m) else if (findF name m.files).isNone then (31, m) else if m.fuel = 0 then (30, offB m) else (0, { tickB m with files := updF name firmF m.files })
def deleteB (m : Bx) (name : ByteArray) : Int × Bx :=
  if m.down then (30, m) else if (findF name m.files).isNone then (31, m) else if m.fuel = 0 then (30, offB m) else (0, { tickB m with files := delF name m.files })
def readB (m : Bx) (name : ByteArray) : ByteArray × Int :=
  if m.down then (bs0, 30) else match findF name m.files with | none => (bs0, 31) | some f => (f.firm ++ f.soft, 0)
def fuelB (m : Bx) (n : Int) : Bx := { m with fuel := if (-1 : Int) > n then -1 else n }
def keptF (keep : List Int) (k : Nat) (f : Fi) : ByteArray :=
  if f.soft = bs0 then f.firm else match keep[k]? with | some n => f.firm ++ f.soft.extract 0 (min n.toNat f.soft.size) | none => f.firm
def nextF (k : Nat) (f : Fi) : Nat := if f.soft = bs0 then k else k + 1
def oneF (keep : List Int) (k : Nat) (f : Fi) : List Fi := if keptF keep k f = bs0 then [] else [⟨f.name, keptF keep k f, bs0⟩]
def crashF (keep : List Int) : Nat → List Fi → List Fi
  | _, [] => []
  | k, f :: l => oneF keep k f ++ crashF keep (nextF k f) l
def crashB (m : Bx) (keep : List Int) : Bx := ⟨crashF keep 0 m.files, -1, false⟩

structure GoodB (m : Bx) : Prop where
  sorted : SortedF m.files
  names : ∀ f ∈ m.files, f.name.size ≤ 32
  lo : -1 ≤ m.fuel
  hi : m.fuel ≤ 9223372036854775807
  wt : wtF m.files ≤ 1099511627776

theorem size_app (a b : ByteArray) : (a ++ b).size = a.size + b.size := ByteArray.size_append
theorem app_nil (a : ByteArray) : a ++ bs0 = a := by simp [ByteArray.ext_iff, bs0]
theorem nil_app (a : ByteArray) : bs0 ++ a = a := by simp [ByteArray.ext_iff, bs0]

theorem goodB_new : GoodB newB := ⟨List.Pairwise.nil, by simp [newB], by simp [newB], by simp [newB], by simp [newB, wtF]⟩
theorem GoodB.tick {m : Bx} (g : GoodB m) (l : List Fi) (h1 : SortedF l) (h2 : ∀ f ∈ l, f.name.size ≤ 32) (h3 : wtF l ≤ 1099511627776) : GoodB { tickB m with files := l } := by
  have := g.lo; have := g.hi
  refine ⟨h1, h2, ?_, ?_, h3⟩
  · show -1 ≤ (tickB m).fuel
    unfold tickB; split <;> (try simp only []) <;> omega
  · show (tickB m).fuel ≤ _
    unfold tickB; split <;> (try simp only []) <;> omega
theorem GoodB.off {m : Bx} (g : GoodB m) : GoodB (offB m) := ⟨g.sorted, g.names, g.lo, g.hi, g.wt⟩
theorem haveF_spec {name : ByteArray} {l : List Fi} (s : SortedF l) : SortedF (haveF name l) ∧ wtF (haveF name l) ≤ wtF l + 1 ∧ (∀ f ∈ haveF name l, f ∈ l ∨ f.name = name) := by
  unfold haveF
  split
  · exact ⟨s, by omega, fun f hf => .inl hf⟩
  · rename_i h
    have hn := findF_none (by simpa using h)
    refine ⟨insF_sorted s hn, by rw [wtF_ins]; simp [sz0]; omega, fun f hf => ?_⟩
    rcases List.mem_cons.1 ((insF_perm _ l).subset hf) with rfl | hf
    · exact .inr rfl
    · exact .inl hf
theorem mem_updF {k : ByteArray} {g : Fi → Fi} (hg : ∀ f, (g f).name = f.name) {l : List Fi} {f : Fi} (hf : f ∈ updF k g l) : ∃ f' ∈ l, f'.name = f.name := by
  unfold updF at hf
  obtain ⟨f', h1, rfl⟩ := List.mem_map.1 hf
  exact ⟨f', h1, by split <;> simp [hg]⟩
theorem GoodB.append {m : Bx} (g : GoodB m) {name data : ByteArray} (hw : wtF m.files + data.size + 1 ≤ 1099511627776) : GoodB (appendB m name data).2 := by
  unfold appendB
  split
  · exact g
  · split
    · exact g
    · rename_i hb
      split
      · exact g.off
      · obtain ⟨h1, h2, h3⟩ := haveF_spec (name := name) g.sorted
        refine g.tick _ (updF_sorted (k := name) (g := addF data) (fun _ => rfl) h1) (fun f hf => ?_) ?_
        · obtain ⟨f', h4, h5⟩ := mem_updF (g := addF data) (fun _ => rfl) hf
          rw [← h5]
          rcases h3 f' h4 with h | h
          · exact g.names f' h
          · rw [h]; simp [badName] at hb; omega
        · have := wtF_upd (k := name) (g := addF data) (d := data.size) (fun f => by simp [addF]; omega) h1
          omega
theorem GoodB.sync {m : Bx} (g : GoodB m) {name : ByteArray} : GoodB (syncB m name).2 := by
  unfold syncB
  split
  · exact g
  · split
    · exact g
    · split
      · exact g.off
      · refine g.tick _ (updF_sorted (k := name) (g := firmF) (fun _ => rfl) g.sorted) (fun f hf => ?_) ?_
        · obtain ⟨f', h4, h5⟩ := mem_updF (g := firmF) (fun _ => rfl) hf
          rw [← h5]; exact g.names f' h4
        · have := wtF_upd (k := name) (g := firmF) (d := 0) (fun f => by simp [firmF, sz0]) g.sorted
          have := g.wt; omega
theorem GoodB.delete {m : Bx} (g : GoodB m) {name : ByteArray} : GoodB (deleteB m name).2 := by
  unfold deleteB
  split
  · exact g
  · split
    · exact g
    · split
      · exact g.off
      · exact g.tick _ (delF_sorted g.sorted) (fun f hf => g.names f (List.mem_filter.1 hf).1) (Nat.le_trans (wtF_del _) g.wt)
theorem GoodB.fuel {m : Bx} (g : GoodB m) {n : Int} (hn : n ≤ 9223372036854775807) : GoodB (fuelB m n) := by
  refine ⟨g.sorted, g.names, ?_, ?_, g.wt⟩ <;> (simp only [fuelB]; split <;> omega)
theorem mem_crashF {keep : List Int} : ∀ {l : List Fi} {k : Nat} {f : Fi}, f ∈ crashF keep k l → ∃ f' ∈ l, f'.name = f.name
  | [], _, _, h => by simp [crashF] at h
  | x :: l, k, f, h => by
    unfold crashF at h
    rcases List.mem_append.1 h with h | h
    · unfold oneF at h
      split at h
      · cases h
      · simp at h; exact ⟨x, List.mem_cons_self, by rw [h]⟩
    · obtain ⟨f', h1, h2⟩ := mem_crashF h
      exact ⟨f', List.mem_cons_of_mem _ h1, h2⟩
theorem crashF_sorted {keep : List Int} : ∀ {l : List Fi} {k : Nat}, SortedF l → SortedF (crashF keep k l)
  | [], _, _ => List.Pairwise.nil
  | x :: l, k, s => by
    have s' := List.pairwise_cons.1 s
    unfold crashF
    refine List.pairwise_append.2 ⟨?_, crashF_sorted s'.2, ?_⟩
    · unfold oneF; split
      · exact List.Pairwise.nil
      · exact List.pairwise_singleton _ _
    · intro a ha b hb
      have : a.name = x.name := by
        unfold oneF at ha; split at ha
        · cases ha
        · simp at ha; rw [ha]
      obtain ⟨f', h1, h2⟩ := mem_crashF hb
      rw [this, ← h2]; exact s'.1 f' h1
theorem kept_size (keep : List Int) (k : Nat) (f : Fi) : (keptF keep k f).size ≤ f.firm.size + f.soft.size := by
  unfold keptF
  split
  · omega
  · split
    · rw [size_app, ByteArray.size_extract]; omega
    · omega
theorem crashF_wt {keep : List Int} : ∀ {l : List Fi} {k : Nat}, wtF (crashF keep k l) ≤ wtF l
  | [], _ => by simp [crashF]
  | x :: l, k => by
    unfold crashF
    have := crashF_wt (keep := keep) (l := l) (k := nextF k x)
    have := kept_size keep k x
    unfold oneF
    rw [wtF_cons]
    split
    · simp; omega
    · rw [List.singleton_append, wtF_cons]; simp [sz0]; omega
theorem GoodB.crash {m : Bx} (g : GoodB m) {keep : List Int} : GoodB (crashB m keep) :=
  ⟨crashF_sorted g.sorted, fun f hf => by obtain ⟨f', h1, h2⟩ := mem_crashF hf; rw [← h2]; exact g.names f' h1, by simp [crashB], by simp [crashB], Nat.le_trans crashF_wt g.wt⟩
theorem wt_append {m : Bx} (g : GoodB m) (name data : ByteArray) : wtF (appendB m name data).2.files ≤ wtF m.files + data.size + 1 := by
  unfold appendB
  split
  · simp; omega
  · split
    · simp; omega
    · split
      · simp [offB]; omega
      · obtain ⟨h1, h2, _⟩ := haveF_spec (name := name) g.sorted
        have := wtF_upd (k := name) (g := addF data) (d := data.size) (fun f => by simp [addF]; omega) h1
        simp; omega
theorem wt_sync {m : Bx} (g : GoodB m) (name : ByteArray) : wtF (syncB m name).2.files ≤ wtF m.files := by
  unfold syncB
  split
  · simp
  · split
    · simp
    · split
      · simp [offB]
      · have := wtF_upd (k := name) (g := firmF) (d := 0) (fun f => by simp [firmF, sz0]) g.sorted
        simpa using this
theorem wt_delete {m : Bx} (name : ByteArray) : wtF (deleteB m name).2.files ≤ wtF m.files := by
  unfold deleteB
  split
  · simp
  · split
    · simp
    · split
      · simp [offB]
      · exact wtF_del _
theorem wt_crash {m : Bx} {keep : List Int} : wtF (crashB m keep).files ≤ wtF m.files := crashF_wt
end Go.Lf

/-
  LIFT, part U3: an owned slice's element is written; more words.
-/
set_option maxRecDepth 100000
namespace Go.Lf
open Go

theorem flat_set {α : Type} {E : Enc α} {x x' : α} {j : Nat} {v : Value} (hx : E.enc x' = (E.enc x).set j v) (hj : j < E.w) : ∀ {l : List α} {i : Nat}, l[i]? = some x → (l.set i x').flatMap E.enc = (l.flatMap E.enc).set (i * E.w + j) v
  | [], _, h => by simp at h
  | y :: l, 0, h => by
    simp at h; subst h
    rw [List.set_cons_zero, List.flatMap_cons, List.flatMap_cons, hx, Nat.zero_mul, Nat.zero_add, List.set_append_left _ _ (by rw [E.len]; exact hj)]
  | y :: l, i + 1, h => by
    rw [List.set_cons_succ, List.flatMap_cons, List.flatMap_cons, flat_set hx hj (l := l) (i := i) (by simpa using h), List.set_append_right _ _ (by rw [E.len, Nat.add_mul]; omega), E.len]
    rw [show (i + 1) * E.w + j - E.w = i * E.w + j by rw [Nat.add_mul]; omega]

theorem Own.store {α : Type} {E : Enc α} {T : TypeId} {h : Heap} {s : Sl} {l : List α} {i j : Nat} {x x' : α} {v : Value} {K : Heap → Prop} (o : Own E T h s l) (hi : l[i]? = some x) (hx : E.enc x' = (E.enc x).set j v) (hj : j < E.w)
    (H : ∀ h', Own E T h' s (l.set i x') → Mod (fun c => s.blk = some c) h h' → h'.size = h.size → K h') : ∀ a, s.p = some a → Store h ((a.add (i * E.w)).add j) v K := by
  intro a ha
  rcases o.row with ⟨rfl, rfl⟩ | ⟨g, cur, hp, hg, hc, hm, hs, ht⟩
  · simp at hi
  · rw [hp] at ha; cases ha
    rw [add_add, add_mk, Nat.zero_add]
    have hil : i < l.length := (List.getElem?_eq_some_iff.1 hi).1
    have hlt : i * E.w + j < s.len * E.w := by
      have : (i + 1) * E.w ≤ s.len * E.w := Nat.mul_le_mul_right _ (by rw [o.len]; exact hil)
      rw [Nat.add_mul] at this; omega
    have hcap : s.len * E.w ≤ cur.size := by rw [hs]; exact Nat.mul_le_mul_right _ hc
    refine Store.mk hg (by omega) fun h' hg' m hsz => H h' ⟨by rw [List.length_set]; exact o.len, .inr ⟨g, _, hp, hg', hc, hm, by simpa using hs, ?_⟩⟩ (m.weak fun c _ hcc => by simp [Sl.blk, hp, hcc]) hsz
    rw [Array.toList_setIfInBounds, List.take_set, ht, flat_set hx hj hi]

/-- an element's cell is read -/
theorem Own.ne {α : Type} {E : Enc α} {T T' : TypeId} {h : Heap} {s : Sl} {l : List α} (o : Own E T h s l) {b : Nat} {cs : Array Value} {fr : Nat × Nat} (hb : h[b]? = some (.cells cs T' fr)) (hT : T ≠ T') : s.blk ≠ some b := by
  intro e
  rcases o.row with ⟨rfl, _⟩ | ⟨g, cur, hp, hg, _⟩
  · simp [Sl.blk] at e
  · simp [Sl.blk, hp] at e; subst e
    rw [hg] at hb
    injection hb with hb
    injection hb with _ h2 _
    exact hT h2

theorem max_i64 : IntKind.max .i64 = 9223372036854775807 := by simp [IntKind.max, IntKind.bits, IntKind.signed]

/-! ### what a crash keeps, file by file -/
def cntF (k : Nat) (l : List Fi) : Nat := l.foldl nextF k
theorem crashF_app (keep : List Int) : ∀ (l1 l2 : List Fi) (k : Nat), crashF keep k (l1 ++ l2) = crashF keep k l1 ++ crashF keep (cntF k l1) l2
  | [], _, _ => rfl
  | x :: l1, l2, k => by
    show oneF keep k x ++ crashF keep (nextF k x) (l1 ++ l2) = _
    rw [crashF_app keep l1 l2, ← List.append_assoc]; rfl
theorem crashF_len {keep : List Int} : ∀ {l : List Fi} {k : Nat}, (crashF keep k l).length ≤ l.length
  | [], _ => by simp [crashF]
  | x :: l, k => by
    have := crashF_len (keep := keep) (l := l) (k := nextF k x)
    unfold crashF oneF
    split <;> simp <;> omega
theorem wtF_take : ∀ (n : Nat) (l : List Fi), wtF (l.take n) ≤ wtF l
  | 0, l => by simp [wtF]
  | n + 1, [] => by simp
  | n + 1, x :: l => by rw [List.take_succ_cons, wtF_cons, wtF_cons]; have := wtF_take n l; omega
theorem Mod.weak' {S S' : Nat → Prop} {h h1 : Heap} (a : Mod S h h1) (hs : ∀ b, b < h.size → ¬ S b) : Mod S' h h1 := a.weak fun b hb h => (hs b hb h).elim
theorem cntF_snoc (k : Nat) (l : List Fi) (x : Fi) : cntF k (l ++ [x]) = nextF (cntF k l) x := by simp [cntF]
theorem cntF_le : ∀ (l : List Fi) (k : Nat), cntF k l ≤ k + l.length
  | [], k => by simp [cntF]
  | x :: l, k => by
    show cntF (nextF k x) l ≤ _
    have := cntF_le l (nextF k x)
    have : nextF k x ≤ k + 1 := by unfold nextF; split <;> omega
    rw [List.length_cons]; omega
theorem crashF_snoc (keep : List Int) (l : List Fi) (x : Fi) : crashF keep 0 (l ++ [x]) = crashF keep 0 l ++ oneF keep (cntF 0 l) x := by
  rw [crashF_app]; simp [crashF]
end Go.Lf

