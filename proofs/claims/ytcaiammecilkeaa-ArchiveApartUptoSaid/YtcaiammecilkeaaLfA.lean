/-
  LIFT, part A: worlds as heaps beside a fixed rest; one operation's outcome at the level of values; a region that draws its order, walked in the text's order.
-/
import Derived.WalkKit
import Derived.OrdersIn
import Derived.RangeFuncIn
import Derived.RangeFuncLeaves
import Derived.RangeFuncCalls
import Derived.TacticsInMore
namespace Go.Lf

structure Amb where
  tape : Nat → Question → Nat
  os : Os
  output : Array (Nat × ByteArray)

abbrev Heap := Array Obj

def Amb.at (A : Amb) (h : Heap) (n : Nat) : World := { heap := h, tape := A.tape, drawn := n, os := A.os, output := A.output }

abbrev Fw (r : Option Nat) : Fence := { fn := fun _ => True, depth := none, alive := false, round := r }

theorem room_fw (r : Option Nat) (n : Nat) : (Fw r).room n := fun _ h => by simp at h

theorem callsIn_fw {r : Option Nat} {n : Nat} {P : Program} {f : FuncId} {args : Array Value} {w : World} {R : Ending → World → Prop} :
    CallsIn (Fw r) n P f args w R ↔ Calls P f args w R := callsIn_wide

/-- a round, at no depth -/
def Rounds (P : Program) (l : Nat) (f : FuncId) (tmps : Array Value) (assign body : Code) (w : World) (R : Value → World → Prop) : Prop :=
  RoundIn (Fw none) 0 P l f tmps assign body w (fun e w' => ∃ v, e = .returned v ∧ R v w')

theorem Rounds.mono {P : Program} {l : Nat} {f : FuncId} {tmps : Array Value} {assign body : Code} {w : World} {R R' : Value → World → Prop}
    (h : Rounds P l f tmps assign body w R) (hr : ∀ v w', R v w' → R' v w') : Rounds P l f tmps assign body w R' :=
  RoundIn.mono h fun _ _ ⟨v, he, hv⟩ => ⟨v, he, hr _ _ hv⟩

theorem roundIn_fw {r : Option Nat} {n : Nat} {P : Program} {l : Nat} {f : FuncId} {tmps : Array Value} {assign body : Code} {w : World} {R : Ending → World → Prop}
    (h : RoundIn (Fw none) 0 P l f tmps assign body w R) : RoundIn (Fw r) n P l f tmps assign body w R :=
  ⟨trivial, fun c cs _ => h.2 c cs (room_fw none _)⟩

/-- what one operation comes to, at the level of values -/
def Next.out (P : Program) (K : Value → World → Prop) : Result Next → Prop
  | .ok (.value v) w' => K v w'
  | .ok .skip w' => K undef w'
  | .ok (.enter f args) w' => Calls P f args w' (fun e w'' => ∃ v, e = .returned v ∧ K v w'')
  | .ok (.round l f tmps assign body) w' => Rounds P l f tmps assign body w' K
  | _ => False

def EV (P : Program) (o : Oper) (ρ : Operand → Value) (w : World) (K : Value → World → Prop) : Prop := Next.out P K ((execOp ρ o).run P w)

theorem Next.out_mono {P : Program} {K K' : Value → World → Prop} (hk : ∀ v w, K v w → K' v w) {x : Result Next} (h : Next.out P K x) : Next.out P K' x := by
  cases x with
  | ok y w =>
    cases y <;> simp only [Next.out] at h ⊢ <;>
      first
        | exact hk _ _ h
        | exact Calls.mono h fun _ _ ⟨v, he, hv⟩ => ⟨v, he, hk _ _ hv⟩
        | exact Rounds.mono h hk
  | halt x w => simp only [Next.out] at h

theorem EV.mono {P : Program} {o : Oper} {ρ : Operand → Value} {w : World} {K K' : Value → World → Prop} (h : EV P o ρ w K) (hk : ∀ v w, K v w → K' v w) : EV P o ρ w K' := Next.out_mono hk h

theorem Calls.some {P : Program} {f : FuncId} {args : Array Value} {w : World} {R : Ending → World → Prop} (h : Calls P f args w R) : ∃ e w', R e w' :=
  let ⟨e, w', _, r, _⟩ := h []; ⟨e, w', r⟩

theorem EV.some {P : Program} {o : Oper} {ρ : Operand → Value} {w : World} {K : Value → World → Prop} (h : EV P o ρ w K) : ∃ v w', K v w' := by
  unfold EV at h
  cases hx : (execOp ρ o).run P w with
  | ok y w' =>
    rw [hx] at h
    cases y <;> simp only [Next.out] at h
    case value v => exact ⟨_, _, h⟩
    case skip => exact ⟨_, _, h⟩
    case enter f args => obtain ⟨e, w'', v, _, hv⟩ := Calls.some h; exact ⟨v, w'', hv⟩
    case round l f tmps assign body =>
      obtain ⟨e, w'', ⟨v, _, hv⟩, _⟩ := h.2 default [] (room_fw none _)
      exact ⟨v, w'', hv⟩
  | halt y w' => rw [hx] at h; simp only [Next.out] at h

def notDefer (o : Oper) : Bool := match o.op with | .defer _ => false | .select .. => false | _ => true

theorem EV.wpIn {r : Option Nat} {m : Nat} {P : Program} {o : Oper} {a : Act} {w : World} {K : Act → World → Prop} {Q : Exit → Act → World → Prop}
    (hd : notDefer o = true) (h : EV P o a.eval w fun v w' => K (a.put o.dst v) w') : o.wpIn (Fw r) m P a w K Q := by
  refine ⟨fun _ _ => trivial, ?_⟩
  have hs : Oper.semAt r a.eval o = execOp a.eval o := Oper.semAt_eq r a.eval o (fun c hc => by simp [notDefer, hc] at hd)
  show o.uponIn (Fw r) m P a K Q ((Oper.semAt r a.eval o).run P w)
  rw [hs]
  unfold EV at h
  generalize (execOp a.eval o).run P w = x at h
  cases x with
  | ok y w' =>
    cases y <;> simp only [Next.out] at h <;> simp only [Oper.uponIn]
    case value v => exact h
    case skip => exact h
    case enter f args =>
      refine ⟨fun hn => by simp at hn, callsIn_fw.2 (Calls.mono h ?_)⟩
      rintro e w'' ⟨v, rfl, hv⟩
      exact hv
    case round l f tmps assign body =>
      refine ⟨fun hn => by simp at hn, roundIn_fw (RoundIn.mono h ?_)⟩
      rintro e w'' ⟨v, rfl, hv⟩
      exact hv
  | halt y w' => simp only [Next.out] at h

/-! ### A region that draws its order, in the text's order -/
section
variable {P : Program} {A : Amb} {r : Option Nat} {ops : Array Oper}

/-- the operation yields v and leaves the heap alone -/
def exq (P : Program) (A : Amb) (o : Oper) (ρ : Operand → Value) (v : Value) (h : Heap) : Prop := ∀ n, (execOp ρ o).run P (A.at h n) = .ok (.value v) (A.at h n)

def un (ord : Nat → Nat → Bool) (i j : Nat) : Bool := !(ord (max i j) (min i j))

def FA (P : Program) (A : Amb) (ops : Array Oper) (qb : Oper → Bool) (ord : Nat → Nat → Bool) (Q : Act → Heap → Prop) :
    List Nat → Act → Heap → List (Nat × (Heap → Prop)) → List (Nat × Heap) → Prop
  | [], a, h, _, _ => Q a h
  | i :: rest, a, h, pend, pres =>
    match ops[i]? with
    | none => False
    | some o =>
      if Region.wanted o (yielded ops a.tmps) = true then
        if qb o = true then
          ∃ v, exq P A o a.eval v h ∧ (∀ p ∈ pres, un ord i p.1 = true → exq P A o a.eval v p.2) ∧ FA P A ops qb ord Q rest (a.put o.dst v) h ((i, exq P A o a.eval v) :: pend) pres
        else
          ∀ n, EV P o a.eval (A.at h n) fun v w' => ∃ h' n', w' = A.at h' n' ∧ (∀ p ∈ pend, un ord i p.1 = true → p.2 h') ∧ FA P A ops qb ord Q rest (a.put o.dst v) h' pend ((i, h) :: pres)
      else FA P A ops qb ord Q rest (a.put o.dst undef) h pend pres

variable {qb : Oper → Bool} {ord : Nat → Nat → Bool} {Q : Act → Heap → Prop}

theorem FA.sub : ∀ {l : List Nat} {a : Act} {h : Heap} {pend pend' : List (Nat × (Heap → Prop))} {pres pres' : List (Nat × Heap)}, FA P A ops qb ord Q l a h pend pres →
    (∀ p ∈ pend', p ∈ pend) → (∀ p ∈ pres', p ∈ pres) → FA P A ops qb ord Q l a h pend' pres' := by
  intro l
  induction l with
  | nil => intro a h _ _ _ _ H _ _; exact H
  | cons i rest ih =>
    intro a h pend pend' pres pres' H h1 h2
    unfold FA at H ⊢
    cases ho : ops[i]? with
    | none => rw [ho] at H; exact H
    | some o =>
      rw [ho] at H
      simp only at H ⊢
      split
      · rename_i hw
        rw [if_pos hw] at H
        split
        · rename_i hq
          rw [if_pos hq] at H
          obtain ⟨v, hv, hp, hr⟩ := H
          refine ⟨v, hv, fun p hp' => hp p (h2 p hp'), ih hr (fun p hp' => ?_) h2⟩
          rcases List.mem_cons.1 hp' with rfl | hp'
          · exact List.mem_cons_self
          · exact List.mem_cons_of_mem _ (h1 p hp')
        · rename_i hq
          rw [if_neg hq] at H
          intro n
          refine (H n).mono ?_
          rintro v w' ⟨h', n', hw', hp, hr⟩
          refine ⟨h', n', hw', fun p hp' => hp p (h1 p hp'), ih hr h1 (fun p hp' => ?_)⟩
          rcases List.mem_cons.1 hp' with rfl | hp'
          · exact List.mem_cons_self
          · exact List.mem_cons_of_mem _ (h2 p hp')
      · rename_i hw
        rw [if_neg hw] at H
        exact ih H h1 h2

def notSelect (o : Oper) : Prop := ∀ cs b, o.op ≠ .select cs b

/-- two neighbours change places -/
theorem FA.swap {i j : Nat} {oi oj : Oper} (hi : ops[i]? = some oi) (hj : ops[j]? = some oj) (hap : oi.apart ops oj = true) (hsi : notSelect oi) (hsj : notSelect oj)
    (hun : un ord i j = true) (heff : qb oi = true ∨ qb oj = true) {l : List Nat} {a : Act} {h : Heap} {pend : List (Nat × (Heap → Prop))} {pres : List (Nat × Heap)}
    (H : FA P A ops qb ord Q (j :: i :: l) a h pend pres) : FA P A ops qb ord Q (i :: j :: l) a h pend pres := by
  obtain ⟨h1, h2, h3⟩ := Oper.apart_spec hap
  have hun' : un ord j i = true := by unfold un at *; rwa [Nat.max_comm, Nat.min_comm]
  have ei : ∀ u, execOp (a.put oj.dst u).eval oi = execOp a.eval oi := fun u => execOp_put oi hsi a oj.dst u h3
  have ej : ∀ u, execOp (a.put oi.dst u).eval oj = execOp a.eval oj := fun u => execOp_put oj hsj a oi.dst u h1
  have wi : ∀ u, Region.wanted oi (yielded ops (a.put oj.dst u).tmps) = Region.wanted oi (yielded ops a.tmps) := fun u => wanted_put oi a oj.dst u h3
  have wj : ∀ u, Region.wanted oj (yielded ops (a.put oi.dst u).tmps) = Region.wanted oj (yielded ops a.tmps) := fun u => wanted_put oj a oi.dst u h1
  have xi : ∀ u, exq P A oi (a.put oj.dst u).eval = exq P A oi a.eval := fun u => by funext v h; unfold exq; rw [ei]
  have xj : ∀ u, exq P A oj (a.put oi.dst u).eval = exq P A oj a.eval := fun u => by funext v h; unfold exq; rw [ej]
  have pc : ∀ v u, (a.put oi.dst v).put oj.dst u = (a.put oj.dst u).put oi.dst v := fun v u => Act.put_comm a v u h2
  unfold FA at H ⊢
  rw [hj] at H
  rw [hi]
  simp only at H ⊢
  by_cases hwj : Region.wanted oj (yielded ops a.tmps) = true
  · rw [if_pos hwj] at H
    by_cases hqj : qb oj = true
    · rw [if_pos hqj] at H
      obtain ⟨vj, hvj, hpj, H⟩ := H
      unfold FA at H
      rw [hi] at H
      simp only [wi, xi] at H
      by_cases hwi : Region.wanted oi (yielded ops a.tmps) = true
      · rw [if_pos hwi] at H ⊢
        by_cases hqi : qb oi = true
        · rw [if_pos hqi] at H ⊢
          obtain ⟨vi, hvi, hpi, H⟩ := H
          refine ⟨vi, hvi, hpi, ?_⟩
          unfold FA
          rw [hj]
          simp only [wj, xj]
          rw [if_pos hwj, if_pos hqj]
          refine ⟨vj, hvj, hpj, ?_⟩
          rw [pc]
          exact H.sub (fun p hp => by simp only [List.mem_cons] at hp ⊢; rcases hp with h | h | h <;> simp [h]) (fun _ h => h)
        · rw [if_neg hqi] at H ⊢
          intro n
          have := H n
          unfold EV at this
          rw [ei] at this
          refine EV.mono this ?_
          rintro vi w' ⟨h', n', hw', hp, H⟩
          refine ⟨h', n', hw', fun p hp' => hp p (List.mem_cons_of_mem _ hp'), ?_⟩
          unfold FA
          rw [hj]
          simp only [wj, xj]
          rw [if_pos hwj, if_pos hqj]
          refine ⟨vj, hp _ List.mem_cons_self hun, ?_, ?_⟩
          · intro p hp' hu
            rcases List.mem_cons.1 hp' with rfl | hp'
            · exact hvj
            · exact hpj p hp' hu
          · rw [pc]; exact H
      · rw [if_neg hwi] at H ⊢
        unfold FA
        rw [hj]
        simp only [wj, xj]
        rw [if_pos hwj, if_pos hqj]
        exact ⟨vj, hvj, hpj, by rw [pc]; exact H⟩
    · rw [if_neg hqj] at H
      have hqi : qb oi = true := heff.resolve_right hqj
      by_cases hwi : Region.wanted oi (yielded ops a.tmps) = true
      · rw [if_pos hwi, if_pos hqi]
        have key : ∀ n, EV P oj a.eval (A.at h n) fun v w' => ∃ h' n', w' = A.at h' n' ∧ (∀ p ∈ pend, un ord j p.1 = true → p.2 h') ∧
            ∃ vi, exq P A oi a.eval vi h' ∧ (∀ p ∈ (j, h) :: pres, un ord i p.1 = true → exq P A oi a.eval vi p.2) ∧
              FA P A ops qb ord Q l ((a.put oj.dst v).put oi.dst vi) h' ((i, exq P A oi a.eval vi) :: pend) ((j, h) :: pres) := by
          intro n
          refine (H n).mono ?_
          rintro v w' ⟨h', n', hw', hp, H⟩
          unfold FA at H
          rw [hi] at H
          simp only [wi, xi] at H
          rw [if_pos hwi, if_pos hqi] at H
          exact ⟨h', n', hw', hp, H⟩
        obtain ⟨v0, w0, h0, n0, _, _, vi, _, hpi, _⟩ := (key 0).some
        have hvi : exq P A oi a.eval vi h := hpi (j, h) List.mem_cons_self hun
        refine ⟨vi, hvi, fun p hp hu => hpi p (List.mem_cons_of_mem _ hp) hu, ?_⟩
        unfold FA
        rw [hj]
        simp only [wj]
        rw [if_pos hwj, if_neg hqj]
        intro n
        have := key n
        unfold EV at this ⊢
        rw [ej]
        refine Next.out_mono ?_ this
        rintro v w' ⟨h', n', hw', hp, vi', hvi', hpi', H⟩
        have hv2 : exq P A oi a.eval vi' h := hpi' (j, h) List.mem_cons_self hun
        have e : vi' = vi := by
          have e1 := hvi 0
          have e2 := hv2 0
          rw [e1] at e2
          injection e2 with e2 _
          injection e2 with e2
          exact e2.symm
        subst e
        refine ⟨h', n', hw', ?_, ?_⟩
        · intro p hp' hu
          rcases List.mem_cons.1 hp' with rfl | hp'
          · exact hvi'
          · exact hp p hp' hu
        · rw [pc]; exact H
      · rw [if_neg hwi]
        unfold FA
        rw [hj]
        simp only [wj]
        rw [if_pos hwj, if_neg hqj]
        intro n
        have := H n
        unfold EV at this ⊢
        rw [ej]
        refine Next.out_mono ?_ this
        rintro v w' ⟨h', n', hw', hp, H⟩
        unfold FA at H
        rw [hi] at H
        simp only [wi] at H
        rw [if_neg hwi] at H
        exact ⟨h', n', hw', hp, by rw [pc]; exact H⟩
  · rw [if_neg hwj] at H
    unfold FA at H
    rw [hi] at H
    simp only [wi, xi] at H
    by_cases hwi : Region.wanted oi (yielded ops a.tmps) = true
    · rw [if_pos hwi] at H ⊢
      by_cases hqi : qb oi = true
      · rw [if_pos hqi] at H ⊢
        obtain ⟨vi, hvi, hpi, H⟩ := H
        refine ⟨vi, hvi, hpi, ?_⟩
        unfold FA
        rw [hj]
        simp only [wj]
        rw [if_neg hwj, pc]
        exact H
      · rw [if_neg hqi] at H ⊢
        intro n
        have := H n
        unfold EV at this ⊢
        rw [ei] at this
        refine Next.out_mono ?_ this
        rintro v w' ⟨h', n', hw', hp, H⟩
        refine ⟨h', n', hw', hp, ?_⟩
        unfold FA
        rw [hj]
        simp only [wj]
        rw [if_neg hwj, pc]
        exact H
    · rw [if_neg hwi] at H ⊢
      unfold FA
      rw [hj]
      simp only [wj]
      rw [if_neg hwj, pc]
      exact H

theorem FA.mono_head {i : Nat} {l l' : List Nat} (hl : ∀ a h pend pres, FA P A ops qb ord Q l a h pend pres → FA P A ops qb ord Q l' a h pend pres) {a : Act} {h : Heap}
    {pend : List (Nat × (Heap → Prop))} {pres : List (Nat × Heap)} (H : FA P A ops qb ord Q (i :: l) a h pend pres) : FA P A ops qb ord Q (i :: l') a h pend pres := by
  unfold FA at H ⊢
  cases ho : ops[i]? with
  | none => rw [ho] at H; exact H
  | some o =>
    rw [ho] at H
    simp only at H ⊢
    split
    · rename_i hw
      rw [if_pos hw] at H
      split
      · rename_i hq
        rw [if_pos hq] at H
        obtain ⟨v, hv, hp, hr⟩ := H
        exact ⟨v, hv, hp, hl _ _ _ _ hr⟩
      · rename_i hq
        rw [if_neg hq] at H
        intro n
        refine (H n).mono ?_
        rintro v w' ⟨h', n', hw', hp, hr⟩
        exact ⟨h', n', hw', hp, hl _ _ _ _ hr⟩
    · rename_i hw
      rw [if_neg hw] at H
      exact hl _ _ _ _ H

/-- an operation that is behind none of those ahead of it comes to the front -/
theorem FA.front {i : Nat} {post : List Nat} : ∀ (pre : List Nat),
    (∀ j ∈ pre, ∃ oi oj, ops[i]? = some oi ∧ ops[j]? = some oj ∧ oi.apart ops oj = true ∧ notSelect oi ∧ notSelect oj ∧ un ord i j = true ∧ (qb oi = true ∨ qb oj = true)) →
    ∀ (a : Act) (h : Heap) (pend : List (Nat × (Heap → Prop))) (pres : List (Nat × Heap)), FA P A ops qb ord Q (pre ++ i :: post) a h pend pres →
      FA P A ops qb ord Q (i :: (pre ++ post)) a h pend pres
  | [], _, _, _, _, _, H => H
  | j :: pre, hall, a, h, pend, pres, H => by
    obtain ⟨oi, oj, hi, hj, hap, hsi, hsj, hun, heff⟩ := hall j List.mem_cons_self
    have H2 : FA P A ops qb ord Q (j :: i :: (pre ++ post)) a h pend pres :=
      FA.mono_head (fun a h pend pres => FA.front pre (fun k hk => hall k (List.mem_cons_of_mem _ hk)) a h pend pres) H
    exact FA.swap hi hj hap hsi hsj hun heff H2

/-- 'ord i j': i comes behind j in every order -/
def ordOf (ops : Array Oper) : Nat → Nat → Bool :=
  let b := Region.before ops
  fun i j => (b.getD i 0).testBit j

def floatB (ops : Array Oper) (qb : Oper → Bool) (ord : Nat → Nat → Bool) : Bool :=
  (ops.toList.all fun o => notDefer o) &&
  (List.range ops.size).all fun i =>
    match ops[i]? with
    | none => false
    | some oi =>
      (oi.after.toList.all fun e => !Region.binds .any e || decide (e.on < i)) &&
      (List.range i).all fun j =>
        match ops[j]? with
        | none => false
        | some oj =>
          if ord i j then oi.after.toList.any fun e => Region.binds .any e && (e.on == j || (decide (j < e.on) && ord e.on j))
          else oi.apart ops oj && (qb oi || qb oj)

def rem (n : Nat) (listed : Array Bool) : List Nat := (List.range n).filter fun i => !listed.getD i true

end
end Go.Lf
