/-
  LIFT, part H: a function's formula, and that it gives the function's contract.
-/
import Derived.Test.YtcaiammecilkeaaLfG
namespace Go.Lf

/-! ### what a join or a loop carries -/
inductive Lv where
  | one (s : Sc)
  | agg (l : List Sc)

def Tys : List Sc → Type
  | [] => Unit
  | s :: l => s.Ty × Tys l

def vals : (l : List Sc) → Tys l → List Value
  | [], _ => []
  | s :: l, x => s.val x.1 :: vals l x.2

def Lv.Ty : Lv → Type
  | .one s => s.Ty
  | .agg l => Tys l

def Lv.val : (v : Lv) → v.Ty → Value
  | .one s, x => s.val x
  | .agg l, x => .agg (vals l x).toArray

def Sc.un (v : Value) : (s : Sc) → (s.Ty → Prop) → Prop
  | .int k, K => match v with | .int k' n => (match decide (k' = k) with | true => K n | false => False) | _ => False
  | .bool, K => match v with | .bool b => K b | _ => False
  | .str, K => match v with | .string s => K s | _ => False
  | .ptr, K => match v with | .pointer p => K p | _ => False
  | .sl, K => match v with | .slice p l c => K ⟨p, l, c⟩ | _ => False
  | .map, K => match v with | .map r => K r | _ => False
  | .any, K => K v
  | .flt k, K => match v with | .float k' n => (match decide (k' = k) with | true => K n | false => False) | _ => False
  | .cpx k, K => match v with | .complex k' n m => (match decide (k' = k) with | true => K (n, m) | false => False) | _ => False

theorem Sc.un_sound {v : Value} : ∀ {s : Sc} {K : s.Ty → Prop}, s.un v K → ∃ x, v = s.val x ∧ K x
  | .int k, K, h => by
    cases v <;> simp only [Sc.un] at h
    rename_i k' n
    split at h
    · rename_i hd
      have hd := of_decide_eq_true hd
      subst hd
      exact ⟨n, rfl, h⟩
    · exact h.elim
  | .bool, K, h => by cases v <;> simp only [Sc.un] at h; exact ⟨_, rfl, h⟩
  | .str, K, h => by cases v <;> simp only [Sc.un] at h; exact ⟨_, rfl, h⟩
  | .ptr, K, h => by cases v <;> simp only [Sc.un] at h; exact ⟨_, rfl, h⟩
  | .sl, K, h => by cases v <;> simp only [Sc.un] at h; exact ⟨_, rfl, h⟩
  | .map, K, h => by cases v <;> simp only [Sc.un] at h; exact ⟨_, rfl, h⟩
  | .any, K, h => ⟨v, rfl, h⟩
  | .flt k, K, h => by
    cases v <;> simp only [Sc.un] at h
    rename_i k' n
    split at h
    · rename_i hd
      have hd := of_decide_eq_true hd
      subst hd
      exact ⟨n, rfl, h⟩
    · exact h.elim
  | .cpx k, K, h => by
    cases v <;> simp only [Sc.un] at h
    rename_i k' n m
    split at h
    · rename_i hd
      have hd := of_decide_eq_true hd
      subst hd
      exact ⟨(n, m), rfl, h⟩
    · exact h.elim

def unAll : (l : List Sc) → List Value → (Tys l → Prop) → Prop
  | [], [], K => K ()
  | s :: l, v :: vs, K => s.un v fun x => unAll l vs fun xs => K (x, xs)
  | [], _ :: _, _ => False
  | _ :: _, [], _ => False

theorem unAll_sound : ∀ {l : List Sc} {vs : List Value} {K : Tys l → Prop}, unAll l vs K → ∃ xs, vs = vals l xs ∧ K xs
  | [], [], _, h => ⟨(), rfl, h⟩
  | s :: l, v :: vs, K, h => by
    obtain ⟨x, hx, h1⟩ := Sc.un_sound h
    obtain ⟨xs, hxs, h2⟩ := unAll_sound h1
    exact ⟨(x, xs), by rw [hx, hxs]; rfl, h2⟩
  | [], _ :: _, _, h => h.elim
  | _ :: _, [], _, h => h.elim

def Lv.un (v : Value) : (lv : Lv) → (lv.Ty → Prop) → Prop
  | .one s, K => s.un v K
  | .agg l, K => match v with | .agg cs => unAll l cs.toList K | _ => False

theorem Lv.un_sound {v : Value} : ∀ {lv : Lv} {K : lv.Ty → Prop}, lv.un v K → ∃ x, v = lv.val x ∧ K x
  | .one s, K, h => Sc.un_sound h
  | .agg l, K, h => by
    cases v <;> simp only [Lv.un] at h
    rename_i cs
    obtain ⟨xs, hx, h⟩ := unAll_sound h
    refine ⟨xs, ?_, h⟩
    simp only [Lv.val]
    rw [← hx]

abbrev Live := List (Nat × Lv)

def TyL : Live → Type
  | [] => Unit
  | x :: r => x.2.Ty × TyL r

def getL : (L : Live) → Env → (TyL L → Prop) → Prop
  | [], _, K => K ()
  | x :: r, e, K => match e.get x.1 with | some v => x.2.un v fun y => getL r e fun ys => K (y, ys) | none => False

def joinGet : (L : Live) → TyL L → Nat → Option Value
  | [], _, _ => none
  | x :: r, xs, t => bif Nat.beq t x.1 then some (x.2.val xs.1) else joinGet r xs.2 t

def memB (t : Nat) : List Nat → Bool
  | [] => false
  | x :: r => bif Nat.beq t x then true else memB t r

def joinEnv (L : Live) (kept : List Nat) (e : Env) (xs : TyL L) : Env :=
  { get := fun t => match joinGet L xs t with | some v => some v | none => bif memB t kept then e.get t else none, ds := e.ds }

def keptOk (kept W : List Nat) : Bool := match kept with | [] => true | x :: r => bif memB x W then false else keptOk r W

theorem memB_iff {t : Nat} : ∀ {l : List Nat}, memB t l = true ↔ t ∈ l
  | [] => by simp [memB]
  | x :: r => by
    unfold memB
    by_cases h : t = x
    · subst h; simp
    · rw [beq_no h]; simp only [cond_false, List.mem_cons, h, false_or]; exact memB_iff

theorem keptOk_spec {W : List Nat} : ∀ {kept : List Nat}, keptOk kept W = true → ∀ t ∈ kept, t ∉ W
  | [], _, _, h => by cases h
  | x :: r, hk, t, ht => by
    unfold keptOk at hk
    cases hm : memB x W with
    | true => rw [hm] at hk; cases hk
    | false =>
      rw [hm] at hk
      rcases List.mem_cons.1 ht with rfl | ht
      · intro hw; rw [memB_iff.2 hw] at hm; cases hm
      · exact keptOk_spec hk t ht

theorem getL_sound {e : Env} : ∀ {L : Live} {K : TyL L → Prop}, getL L e K → ∃ xs, (∀ t v, joinGet L xs t = some v → e.get t = some v) ∧ K xs
  | [], K, h => ⟨(), fun _ _ hj => (by cases hj), h⟩
  | (t0, lv) :: r, K, h => by
    unfold getL at h
    split at h
    · rename_i v hv
      obtain ⟨x, hx, h0⟩ := Lv.un_sound h
      obtain ⟨xs, h1, h2⟩ := getL_sound h0
      refine ⟨(x, xs), fun t v hj => ?_, h2⟩
      change (bif Nat.beq t t0 then some (lv.val x) else joinGet r xs t) = some v at hj
      by_cases ht : t = t0
      · subst ht
        have hb : Nat.beq t t = true := by simp
        rw [hb] at hj
        rw [← hj, cond_true, ← hx]
        exact hv
      · rw [beq_no ht] at hj
        exact h1 t v hj
    · exact h.elim

theorem join_get {L : Live} {kept : List Nat} {e : Env} {xs : TyL L} {t : Nat} {v : Value} (h : (joinEnv L kept e xs).get t = some v) :
    joinGet L xs t = some v ∨ (joinGet L xs t = none ∧ t ∈ kept ∧ e.get t = some v) := by
  unfold joinEnv at h
  simp only at h
  split at h
  · rename_i u hu; rw [hu]; exact .inl h
  · rename_i hu
    cases hm : memB t kept with
    | false => rw [hm] at h; cases h
    | true => rw [hm] at h; exact .inr ⟨hu, memB_iff.1 hm, h⟩

/-- which slots hold a live value hangs on the list alone -/
theorem joinGet_none {L : Live} {xs ys : TyL L} {t : Nat} (h : joinGet L xs t = none) : joinGet L ys t = none := by
  induction L with
  | nil => rfl
  | cons x r ih =>
    unfold joinGet at h ⊢
    by_cases ht : t = x.1
    · subst ht; simp at h
    · rw [beq_no ht] at h ⊢; exact ih h

structure KeepG (W : List Nat) (nd : Bool) (a a' : Act) : Prop where
  get : ∀ t, t ∉ W → a'.tmps[t]? = a.tmps[t]?
  ds : nd = true → a'.defers = a.defers

theorem KeepG.refl {W : List Nat} {nd : Bool} {a : Act} : KeepG W nd a a := ⟨fun _ _ => rfl, fun _ => rfl⟩
theorem KeepG.trans {W W' V : List Nat} {nd nd' md : Bool} {a b c : Act} (h : KeepG W nd a b) (h' : KeepG W' nd' b c) (h1 : ∀ t ∈ W, t ∈ V) (h2 : ∀ t ∈ W', t ∈ V) (h3 : md = true → nd = true ∧ nd' = true) : KeepG V md a c :=
  ⟨fun t ht => (h'.get t fun hm => ht (h2 t hm)).trans (h.get t fun hm => ht (h1 t hm)), fun hm => (h'.ds (h3 hm).2).trans (h.ds (h3 hm).1)⟩
theorem KeepG.weak {W V : List Nat} {nd md : Bool} {a b : Act} (h : KeepG W nd a b) (h1 : ∀ t ∈ W, t ∈ V) (h3 : md = true → nd = true) : KeepG V md a b :=
  ⟨fun t ht => h.get t fun hm => ht (h1 t hm), fun hm => h.ds (h3 hm)⟩

theorem Fits.join {N : Nat} {a a' : Act} {e e' : Env} (H : Fits N a e) (H' : Fits N a' e') {W : List Nat} {nd : Bool} (hnd : nd = true) (hkp : KeepG W nd a a') {L : Live} {kept : List Nat} (hk : keptOk kept W = true) {xs : TyL L}
    (hx : ∀ t v, joinGet L xs t = some v → e'.get t = some v) : Fits N a' (joinEnv L kept e xs) := by
  refine ⟨H'.size, fun t v hv => ?_, (hkp.ds hnd).trans H.ds⟩
  rcases join_get hv with h | ⟨_, hm, h⟩
  · exact H'.get t v (hx t v h)
  · rw [hkp.get t (keptOk_spec hk t hm)]
    exact H.get t v h

/-- round by round: the frame at a loop's head -/
theorem Fits.again {N : Nat} {a a' : Act} {e e' : Env} {L : Live} {kept : List Nat} {xs ys : TyL L} (H : Fits N a (joinEnv L kept e xs)) (H' : Fits N a' e') {W : List Nat} {nd : Bool} (hnd : nd = true) (hkp : KeepG W nd a a')
    (hk : keptOk kept W = true) (hy : ∀ t v, joinGet L ys t = some v → e'.get t = some v) : Fits N a' (joinEnv L kept e ys) := by
  refine ⟨H'.size, fun t v hv => ?_, (hkp.ds hnd).trans H.ds⟩
  rcases join_get hv with h | ⟨hn, hm, h⟩
  · exact H'.get t v (hy t v h)
  · rw [hkp.get t (keptOk_spec hk t hm)]
    refine H.get t v ?_
    unfold joinEnv
    simp only
    rw [joinGet_none hn, memB_iff.2 hm]
    exact h

/-! ### code -/
inductive Ann where
  | none
  | reg (L : Live) (kept : List Nat)
  | seq (x y : Ann)
  | seqJ (L : Live) (kept : List Nat) (x y : Ann)
  | cond (x y : Ann)
  | block (x : Ann)
  | blockJ (L : Live) (kept : List Nat) (x : Ann)
  | loop (L : Live) (kept : List Nat) (x : Ann)
  | range (ps : List Lv) (x y : Ann)

def writes : Code → List Nat
  | .region _ ops _ => dstsOf ops.toList
  | .seq a b => writes a ++ writes b
  | .cond _ a b => writes a ++ writes b
  | .block _ a => writes a
  | .loop a => writes a
  | .scope a => writes a
  | _ => []

/-- no range over a function in it: the marks are as they were -/
def noRF : Code → Bool
  | .rangeFunc .. => false
  | .seq a b => noRF a && noRF b
  | .cond _ a b => noRF a && noRF b
  | .block _ a => noRF a
  | .loop a => noRF a
  | .scope a => noRF a
  | _ => true

def jumpOf : Option Nat → Code
  | none => .ret
  | some id => .exit id

def TyA : List Lv → Type
  | [] => Unit
  | lv :: l => lv.Ty × TyA l

def valsA : (l : List Lv) → TyA l → List Value
  | [], _ => []
  | lv :: l, x => lv.val x.1 :: valsA l x.2

theorem valsA_length : ∀ (l : List Lv) (x : TyA l), (valsA l x).length = l.length
  | [], _ => rfl
  | _ :: l, x => by simp [valsA, valsA_length l x.2]

/-- the parameters of a round -/
def setPs : Env → List Tmp → List Value → Env
  | e, p :: ps, v :: vs => setPs (e.set p v) ps vs
  | e, _, _ => e

/-- for .. := range f { .. } -/
def RangeK (A : Amb) (P : Program) (fv : Value) (lvs : List Lv) (body : TyA lvs → Nat → Heap → (Heap → Prop) → (Option Nat → Heap → Prop) → Prop) (h : Heap) (kn : Heap → Prop) (kj : Option Nat → Heap → Prop) : Prop :=
  ∀ (rec : Go.Loop), rec.state = .ready → rec.pending = none → rec.params.size = lvs.length →
    (∀ (x : TyA lvs) (hh : Heap) (R : Value → Heap → Prop), hh[h.size + 1]? = some (.loop rec) →
      body x (h.size + 1) hh
        (fun h' => ∃ rec', h'[h.size + 1]? = some (.loop rec') ∧ R (.bool true) (h'.setIfInBounds (h.size + 1) (.loop { rec' with state := .ready, pending := none })))
        (fun j h' => ∃ rec', h'[h.size + 1]? = some (.loop rec') ∧ R (.bool false) (h'.setIfInBounds (h.size + 1) (.loop { rec' with state := .done, pending := some (jumpOf j) }))) →
      CallV A P (.func (.yield (h.size + 1)) #[] #[]) (valsA lvs x).toArray hh R) →
    ∃ f args', CalcK P (do let d ← Deferred.ofValue fv #[.func (.yield (h.size + 1)) #[] #[]]; invoke d.target d.args : Sem Next) (fun x => x = .enter f args') ∧
      HCalls A P f args' ((h.push (.deferred (some []))).push (.loop rec)) fun _ h2 =>
        ∃ rec2, h2[h.size + 1]? = some (.loop rec2) ∧ rec2.state ≠ .busy ∧
          ((rec2.pending = none ∧ kn (h2.setIfInBounds (h.size + 1) (.loop { rec2 with state := .exhausted }))) ∨
           ∃ j, rec2.pending = some (jumpOf j) ∧ kj j (h2.setIfInBounds (h.size + 1) (.loop { rec2 with state := .exhausted })))

def semC (A : Amb) (P : Program) (N : Nat) (inR : Bool) : Code → Ann → Env → Heap → (Env → Heap → Prop) → (Nat → Env → Heap → Prop) → (Env → Heap → Prop) → Prop
  | .skip, _, e, h, kn, _, _ => kn e h
  | .exit id, _, e, h, _, kb, _ => kb id e h
  | .ret, _, e, h, _, _, kr => kr e h
  | .region _ ops d, ann, e, h, kn, _, _ => match ann with
    | .reg L kept => match keptOk kept (dstsOf ops.toList) with
      | true => Join (fun xs h => kn (joinEnv L kept e xs) h) fun K => semReg A P N ops d e h fun e' h' => getL L e' fun xs => K xs h'
      | false => False
    | _ => semReg A P N ops d e h kn
  | .seq a b, ann, e, h, kn, kb, kr => match ann with
    | .seq x y => semC A P N inR a x e h (fun e h => semC A P N inR b y e h kn kb kr) kb kr
    | .seqJ L kept x y => match keptOk kept (writes a) && noRF a with
      | true => Join (fun xs h => semC A P N inR b y (joinEnv L kept e xs) h kn kb kr) fun K => semC A P N inR a x e h (fun e' h' => getL L e' fun xs => K xs h') kb kr
      | false => False
    | _ => False
  | .cond c p q, ann, e, h, kn, kb, kr => match ann with
    | .cond x y => rd e c fun v => match v with | .bool b => PIf b (semC A P N inR p x e h kn kb kr) (semC A P N inR q y e h kn kb kr) | _ => False
    | _ => False
  | .block id c, ann, e, h, kn, kb, kr => match ann with
    | .block x => semC A P N inR c x e h kn (fun i e' h' => match Nat.beq i id with | true => kn e' h' | false => kb i e' h') kr
    | .blockJ L kept x => match keptOk kept (writes c) && noRF c with
      | true => Join (fun xs h => kn (joinEnv L kept e xs) h) fun K =>
          semC A P N inR c x e h (fun e' h' => getL L e' fun xs => K xs h') (fun i e' h' => match Nat.beq i id with | true => getL L e' fun xs => K xs h' | false => kb i e' h') kr
      | false => False
    | _ => False
  | .loop c, ann, e, h, _, kb, kr => match ann with
    | .loop L kept x => match keptOk kept (writes c) && noRF c with
      | true => getL L e fun xs => Loop (fun K xs h => semC A P N inR c x (joinEnv L kept e xs) h (fun e' h' => getL L e' fun xs => K xs h') kb kr) xs h
      | false => False
    | _ => False
  | .rangeFunc f ps asg c, ann, e, h, kn, kb, kr => match ann with
    | .range lvs x y => match (!inR) && Nat.beq lvs.length ps.size && ps.toList.all fun p => Nat.blt p N with
      | true => rd e f fun fv => RangeK A P fv lvs
          (fun args l hh kn' kj' => semC A P N true asg x (setPs { get := e.get, ds := [] } ps.toList (valsA lvs args)) hh
            (fun e' h' => ∃ rec1, h'[l]? = some (.loop rec1) ∧ rec1.state = .ready ∧
              semC A P N true c y e' (h'.setIfInBounds l (.loop { rec1 with state := .busy })) (fun _ h2 => kn' h2) (fun i _ h2 => kj' (some i) h2) (fun _ h2 => kj' none h2))
            (fun _ _ _ => False) (fun _ _ => False))
          h
          (fun h' => kn { get := e.get, ds := h.size :: e.ds } h')
          (fun j h' => match j with | none => kr { get := e.get, ds := h.size :: e.ds } h' | some i => kb i { get := e.get, ds := h.size :: e.ds } h')
      | false => False
    | _ => False
  | _, _, _, _, _, _, _ => False

/-- what the walk of a piece of code leaves -/
def Post (A : Amb) (N : Nat) (W : List Nat) (nd : Bool) (a0 : Act) (kn : Env → Heap → Prop) (kb : Nat → Env → Heap → Prop) (kr : Env → Heap → Prop) : Exit → Act → World → Prop :=
  fun x a w => ∃ e h n, w = A.at h n ∧ Fits N a e ∧ KeepG W nd a0 a ∧ (match x with
    | .normal => kn e h
    | .exit id => kb id e h
    | .ret => kr e h
    | _ => False)

theorem Post.mono {A : Amb} {N : Nat} {W V : List Nat} {nd md : Bool} {a0 : Act} {kn kn' : Env → Heap → Prop} {kb kb' : Nat → Env → Heap → Prop} {kr kr' : Env → Heap → Prop}
    (h1 : ∀ t ∈ W, t ∈ V) (h2 : md = true → nd = true) (hn : ∀ e h, kn e h → kn' e h) (hb : ∀ i e h, kb i e h → kb' i e h) (hr : ∀ e h, kr e h → kr' e h) {x : Exit} {a : Act} {w : World}
    (H : Post A N W nd a0 kn kb kr x a w) : Post A N V md a0 kn' kb' kr' x a w := by
  obtain ⟨e, h, n, hw, hf, hk, hx⟩ := H
  refine ⟨e, h, n, hw, hf, hk.weak h1 h2, ?_⟩
  cases x <;> simp only at hx ⊢
  · exact hn _ _ hx
  · exact hb _ _ _ hx
  · exact hr _ _ hx
end Go.Lf
