/-
  Whether flat structs are equal; variables of flat structs.
-/
import Derived.Test.YtcaiammecilkeaaLfU10
import Derived.Laws.StructEq
import Derived.ChangeKeysEq
set_option maxRecDepth 100000
set_option linter.unusedVariables false
set_option linter.unusedSimpArgs false
namespace Go.Lf
open Go

/-- a value of one cell that is compared as it is -/
inductive Fv where
  | i (n : Int)
  | s (x : ByteArray)
  | b (x : Bool)
  deriving DecidableEq
def Fv.v : Fv → Value
  | .i n => .int .i64 n
  | .s x => .string x
  | .b x => .bool x
def Fv.ok (P : Program) (t : TypeId) : Fv → Bool
  | .i _ => match P.underlying t with | some (.int .i64) => true | _ => false
  | .s _ => match P.underlying t with | some .string => true | _ => false
  | .b _ => match P.underlying t with | some .bool => true | _ => false
def sameK : Fv → Fv → Bool
  | .i _, .i _ => true
  | .s _, .s _ => true
  | .b _, .b _ => true
  | _, _ => false
def flatB (P : Program) : Nat → List Field → List Fv → Bool
  | _, [], [] => true
  | i, f :: fs, x :: xs => !(f.name == String.ofList [Char.ofNat 95]) && Nat.beq f.offset i && x.ok P f.type && flatB P (i + 1) fs xs
  | _, _, _ => false
def sameAll : List Fv → List Fv → Bool
  | [], [] => true
  | x :: xs, y :: ys => sameK x y && sameAll xs ys
  | _, _ => false

theorem eqF_one {P : Program} {d : Nat} {t : TypeId} {x y : Fv} (hx : x.ok P t = true) (hk : sameK x y = true) (w : World) : (Op.equalIn (d + 1) t x.v y.v).run P w = .ok (decide (x = y)) w := by
  cases x <;> cases y <;> simp only [sameK, Bool.false_eq_true] at hk <;> simp only [Fv.ok] at hx <;> split at hx <;> (try cases hx)
  · rename_i n m _ hu
    simp only [Fv.v]
    rw [run_equalIn_int w d t .i64 .i64 n m hu]
    simp only [Fv.i.injEq]; rfl
  · rename_i a b _ hu
    simp only [Fv.v]
    rw [run_equalIn_string w d t a b hu, toList_inj]
    simp only [Fv.s.injEq]
  · rename_i a b _ hu
    simp only [Fv.v]
    rw [run_equalIn_bool' w d t a b hu]
    simp only [Fv.b.injEq]
    cases a <;> cases b <;> rfl
theorem Fv.plain {P : Program} {t : TypeId} {x : Fv} (hx : x.ok P t = true) : P.plainKey t = true := by
  cases x <;> simp only [Fv.ok] at hx <;> split at hx <;> (try cases hx) <;> (rename_i hu; simp [Program.plainKey, hu])

theorem eqF_all {P : Program} {d : Nat} (xs ys : List Fv) (w : World) : ∀ (fs : List Field) (xr yr : List Fv) (i : Nat), xs.drop i = xr → ys.drop i = yr → flatB P i fs xr = true → sameAll xr yr = true →
    (Op.eqFields (d + 1) (xs.map Fv.v).toArray (ys.map Fv.v).toArray fs).run P w = .ok (decide (xr = yr)) w := by
  intro fs
  induction fs with
  | nil =>
    intro xr yr i hx hy hf hs
    cases xr with
    | nil =>
      cases yr with
      | nil => simp [Op.eqFields]
      | cons y yr => simp [sameAll] at hs
    | cons x xr => simp [flatB] at hf
  | cons f fs ih =>
    intro xr yr i hx hy hf hs
    cases xr with
    | nil => simp [flatB] at hf
    | cons x xr =>
      cases yr with
      | nil => simp [sameAll] at hs
      | cons y yr =>
        simp only [flatB, sameAll, Bool.and_eq_true, Nat.beq_eq] at hf hs
        obtain ⟨⟨⟨hn, ho⟩, hok⟩, hr⟩ := hf
        have hxi : xs[i]? = some x := by have := congrArg (fun l : List Fv => l[0]?) hx; simpa [List.getElem?_drop] using this
        have hyi : ys[i]? = some y := by have := congrArg (fun l : List Fv => l[0]?) hy; simpa [List.getElem?_drop] using this
        have hx1 : xs.drop (i + 1) = xr := by rw [← List.drop_drop, hx]; rfl
        have hy1 : ys.drop (i + 1) = yr := by rw [← List.drop_drop, hy]; rfl
        have p1 : (part f.type (xs.map Fv.v).toArray f.offset).run P w = .ok x.v w := run_part_plain w (Fv.plain hok) (by rw [ho]; simp [hxi])
        have p2 : (part f.type (ys.map Fv.v).toArray f.offset).run P w = .ok y.v w := run_part_plain w (Fv.plain hok) (by rw [ho]; simp [hyi])
        have ihh := ih xr yr (i + 1) hx1 hy1 hr hs.2
        have hs1 : String.ofList [Char.ofNat 95] = "_" := by decide
        rw [hs1] at hn
        have hn' : (f.name == "_") = false := by simpa using hn
        simp only [Op.eqFields, hn', Sem.run_bind, Sem.run_ite, p1, p2, Result.andThen_ok, eqF_one hok hs.1]
        by_cases hxy : x = y
        · simp [hxy, ihh, Result.andThen]
        · have hn2 : f.name ≠ "_" := by simpa using hn'
          simp [hxy, Result.andThen, hn2]
def eqB (P : Program) (t : TypeId) (xs : List Fv) : Bool := !P.stoodInHeld t && !P.eqGuardType P.depth t && flatB P 0 (P.fieldsOf t).toList xs
theorem eq_flat {A : Amb} {P : Program} {t : TypeId} {o1 o2 : Operand} {xs ys : List Fv} (hu : P.underlying t = some (.struct (P.fieldsOf t))) (hb : eqB P t xs = true) (hs : sameAll xs ys = true) {ax ay : Array Value}
    (hx : ax = (xs.map Fv.v).toArray) (hy : ay = (ys.map Fv.v).toArray) {h : Heap} {K : Value → Heap → Prop} (H : K (.bool (decide (xs = ys))) h) :
    RunK A P (do eqGuard .eql t o1 o2 (.agg ax) (.agg ay); binOp .eql t (.agg ax) (.agg ay)) h K := by
  simp only [eqB, Bool.and_eq_true, Bool.not_eq_true'] at hb
  subst hx; subst hy
  refine fun n => ⟨_, h, n, ?_, H⟩
  rw [Sem.run_bind, run_eqGuard_agg _ _ _ _ _ _ _ hb.1.2, Result.andThen_ok, run_eql_struct, run_equalIn_agg _ _ _ _ _ hu hb.1.1, eqF_all xs ys _ _ xs ys 0 rfl rfl hb.2 hs]
  rfl
theorem ne_flat {A : Amb} {P : Program} {t : TypeId} {o1 o2 : Operand} {xs ys : List Fv} (hu : P.underlying t = some (.struct (P.fieldsOf t))) (hb : eqB P t xs = true) (hs : sameAll xs ys = true) {ax ay : Array Value}
    (hx : ax = (xs.map Fv.v).toArray) (hy : ay = (ys.map Fv.v).toArray) {h : Heap} {K : Value → Heap → Prop} (H : K (.bool (!decide (xs = ys))) h) :
    RunK A P (do eqGuard .neq t o1 o2 (.agg ax) (.agg ay); binOp .neq t (.agg ax) (.agg ay)) h K := by
  simp only [eqB, Bool.and_eq_true, Bool.not_eq_true'] at hb
  subst hx; subst hy
  refine fun n => ⟨_, h, n, ?_, H⟩
  rw [Sem.run_bind, run_eqGuard_agg _ _ _ _ _ _ _ hb.1.2, Result.andThen_ok, run_neq_struct, run_equalIn_agg _ _ _ _ _ hu hb.1.1, eqF_all xs ys _ _ xs ys 0 rfl rfl hb.2 hs]
  rfl

/-! ### variables of several cells -/
/-- the cells of a block are stored, one behind the other -/
theorem Store.two {h : Heap} {b : Nat} {T : TypeId} {e0 e1 v0 v1 : Value} {K : Heap → Prop} (hb : h[b]? = some (.cells #[e0, e1] T (0, 0)))
    (H : ∀ h', h'[b]? = some (.cells #[v0, v1] T (0, 0)) → Mod (· = b) h h' → h'.size = h.size → K h') :
    Store h ⟨b, 0, none⟩ v0 fun h1 => Store h1 ((⟨b, 0, none⟩ : Addr).add 1) v1 K := by
  refine Store.mk hb (by simp) fun h1 hb1 m1 s1 => ?_
  rw [add_mk]
  refine Store.mk hb1 (by simp) fun h2 hb2 m2 s2 => H h2 (by simpa using hb2) (m1.trans m2) (by omega)
theorem Store.six {h : Heap} {b : Nat} {T : TypeId} {e0 e1 e2 e3 e4 e5 v0 v1 v2 v3 v4 v5 : Value} {K : Heap → Prop} (hb : h[b]? = some (.cells #[e0, e1, e2, e3, e4, e5] T (0, 0)))
    (H : ∀ h', h'[b]? = some (.cells #[v0, v1, v2, v3, v4, v5] T (0, 0)) → Mod (· = b) h h' → h'.size = h.size → K h') :
    Store h ⟨b, 0, none⟩ v0 fun h1 => Store h1 ((⟨b, 0, none⟩ : Addr).add 1) v1 fun h2 => Store h2 ((⟨b, 0, none⟩ : Addr).add 2) v2 fun h3 => Store h3 ((⟨b, 0, none⟩ : Addr).add 3) v3 fun h4 => Store h4 ((⟨b, 0, none⟩ : Addr).add 4) v4 fun h5 =>
      Store h5 ((⟨b, 0, none⟩ : Addr).add 5) v5 K := by
  refine Store.mk hb (by simp) fun h1 hb1 m1 s1 => ?_
  rw [add_mk, add_mk, add_mk, add_mk, add_mk]
  refine Store.mk hb1 (by simp) fun h2 hb2 m2 s2 => ?_
  refine Store.mk hb2 (by simp) fun h3 hb3 m3 s3 => ?_
  refine Store.mk hb3 (by simp) fun h4 hb4 m4 s4 => ?_
  refine Store.mk hb4 (by simp) fun h5 hb5 m5 s5 => ?_
  refine Store.mk hb5 (by simp) fun h6 hb6 m6 s6 => H h6 (by simpa using hb6) (((((m1.trans m2).trans m3).trans m4).trans m5).trans m6) (by omega)
theorem Store.eight {h : Heap} {b : Nat} {T : TypeId} {e0 e1 e2 e3 e4 e5 e6 e7 v0 v1 v2 v3 v4 v5 v6 v7 : Value} {K : Heap → Prop} (hb : h[b]? = some (.cells #[e0, e1, e2, e3, e4, e5, e6, e7] T (0, 0)))
    (H : ∀ h', h'[b]? = some (.cells #[v0, v1, v2, v3, v4, v5, v6, v7] T (0, 0)) → Mod (· = b) h h' → h'.size = h.size → K h') :
    Store h ⟨b, 0, none⟩ v0 fun h1 => Store h1 ((⟨b, 0, none⟩ : Addr).add 1) v1 fun h2 => Store h2 ((⟨b, 0, none⟩ : Addr).add 2) v2 fun h3 => Store h3 ((⟨b, 0, none⟩ : Addr).add 3) v3 fun h4 => Store h4 ((⟨b, 0, none⟩ : Addr).add 4) v4 fun h5 =>
      Store h5 ((⟨b, 0, none⟩ : Addr).add 5) v5 fun h6 => Store h6 ((⟨b, 0, none⟩ : Addr).add 6) v6 fun h7 => Store h7 ((⟨b, 0, none⟩ : Addr).add 7) v7 K := by
  refine Store.mk hb (by simp) fun h1 hb1 m1 s1 => ?_
  rw [add_mk, add_mk, add_mk, add_mk, add_mk, add_mk, add_mk]
  refine Store.mk hb1 (by simp) fun h2 hb2 m2 s2 => ?_
  refine Store.mk hb2 (by simp) fun h3 hb3 m3 s3 => ?_
  refine Store.mk hb3 (by simp) fun h4 hb4 m4 s4 => ?_
  refine Store.mk hb4 (by simp) fun h5 hb5 m5 s5 => ?_
  refine Store.mk hb5 (by simp) fun h6 hb6 m6 s6 => ?_
  refine Store.mk hb6 (by simp) fun h7 hb7 m7 s7 => ?_
  refine Store.mk hb7 (by simp) fun h8 hb8 m8 s8 => H h8 (by simpa using hb8) (((((((m1.trans m2).trans m3).trans m4).trans m5).trans m6).trans m7).trans m8) (by omega)
/-- one cell of a variable -/
theorem Store.at1 {h : Heap} {b j : Nat} {v : Value} {cs cs' : Array Value} {T : TypeId} {K : Heap → Prop} (hb : h[b]? = some (.cells cs T (0, 0))) (hj : j < cs.size) (hc : cs.setIfInBounds j v = cs')
    (H : ∀ h', h'[b]? = some (.cells cs' T (0, 0)) → Mod (· = b) h h' → h'.size = h.size → K h') : Store h ((⟨b, 0, none⟩ : Addr).add j) v K := by
  rw [add_mk, Nat.zero_add]
  exact Store.mk hb hj fun h1 hb1 => H h1 (by rw [← hc]; exact hb1)
end Go.Lf
