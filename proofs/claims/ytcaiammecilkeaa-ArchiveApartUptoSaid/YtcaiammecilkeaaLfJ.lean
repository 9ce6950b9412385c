/-
  LIFT, part J: a function: its formula, its contract.
-/
import Derived.Test.YtcaiammecilkeaaLfI
namespace Go.Lf

def resAll (P : Program) : List ResultVar → Env → Heap → (List Value → Prop) → Prop
  | [], _, _, K => K []
  | .tmp t :: r, e, h, K => match e.get t with | some v => resAll P r e h fun vs => K (v :: vs) | none => False
  | .cell a t :: r, e, h, K => match e.get a with
    | some v => (match v with | .pointer p => At p fun ad => loadT P t h ad fun v _ => resAll P r e h fun vs => K (v :: vs) | _ => False)
    | none => False

def oneOf (vs : List Value) (K : Value → Prop) : Prop := match vs with | [v] => K v | vs => K (.tuple vs.toArray)

def resK (P : Program) (l : List ResultVar) (e : Env) (h : Heap) (K : Value → Prop) : Prop := resAll P l e h fun vs => oneOf vs K

def leaveK : List Nat → Heap → (Heap → Prop) → Prop
  | [], h, K => K h
  | r :: rs, h, K => h[r]? = some (.deferred (some [])) ∧ leaveK rs (h.setIfInBounds r (.deferred none)) K

def argGet : Nat → List Value → Nat → Option Value
  | _, [], _ => none
  | i, v :: r, t => bif Nat.beq t i then some v else argGet (i + 1) r t

def retK (P : Program) (fn : Func) (R : Value → Heap → Prop) (e : Env) (h : Heap) : Prop := leaveK e.ds h fun h' => resK P fn.results.toList e h' fun v => R v h'

def semFun (A : Amb) (P : Program) (f : FuncId) (ann : Ann) (args : List Value) (h : Heap) (R : Value → Heap → Prop) : Prop :=
  match P.funcs[f]? with
  | none => False
  | some fn => match fn.body with
    | none => False
    | some c => match Nat.ble args.length fn.ntmps with
      | true => semC A P fn.ntmps false c ann { get := argGet 0 args, ds := [] } h (retK P fn R) (fun _ _ _ => False) (retK P fn R)
      | false => False

theorem argGet_spec : ∀ {l : List Value} {i t : Nat} {v : Value}, argGet i l t = some v → i ≤ t ∧ l[t - i]? = some v
  | [], _, _, _, h => by cases h
  | u :: r, i, t, v, h => by
    unfold argGet at h
    by_cases ht : t = i
    · subst ht
      have hb : Nat.beq t t = true := by simp
      rw [hb, cond_true] at h
      exact ⟨Nat.le_refl _, by simpa using h⟩
    · rw [beq_no ht, cond_false] at h
      obtain ⟨h1, h2⟩ := argGet_spec h
      refine ⟨by omega, ?_⟩
      have : t - i = (t - (i + 1)) + 1 := by omega
      rw [this, List.getElem?_cons_succ]
      exact h2

section
variable {P : Program} {A : Amb}

def resOne (tmps : Array Value) : ResultVar → Sem Value
  | .tmp t => pure (tmps.getD t undef)
  | .cell x t => do loadVar t (← asAddr (tmps.getD x undef))

theorem results_eq (fn : Func) (tmps : Array Value) : results fn tmps = (do let vs ← fn.results.mapM (resOne tmps); pure (if h : vs.size = 1 then vs[0] else .tuple vs)) := rfl

theorem resAll_sound {N : Nat} {a : Act} {e : Env} (H : Fits N a e) {h : Heap} {n : Nat} : ∀ {l : List ResultVar} {K : List Value → Prop}, resAll P l e h K →
    ∃ vs, (l.mapM (resOne a.tmps)).run P (A.at h n) = .ok vs (A.at h n) ∧ K vs
  | [], K, hk => ⟨[], rfl, hk⟩
  | .tmp t :: r, K, hk => by
    unfold resAll at hk
    split at hk
    · rename_i v hv
      obtain ⟨vs, hr, hk2⟩ := resAll_sound (n := n) H hk
      refine ⟨v :: vs, ?_, hk2⟩
      have hg : a.tmps.getD t undef = v := by have := H.get t v hv; simp [this]
      rw [List.mapM_cons]
      simp only [Sem.run_bind, Sem.run_pure, Result.andThen_ok, resOne, hr, hg]
    · exact hk.elim
  | .cell x t :: r, K, hk => by
    unfold resAll at hk
    split at hk
    · rename_i v hv
      split at hk
      · rename_i p
        obtain ⟨ad, rfl, hk1⟩ := At.mk hk
        obtain ⟨u, st, hl, hst, hk2⟩ := loadT_sound (A := A) hk1
        obtain ⟨vs, hr, hk3⟩ := resAll_sound (n := n) H hk2
        refine ⟨u :: vs, ?_, hk3⟩
        have hg : a.tmps.getD x undef = .pointer (some ad) := by have := H.get x _ hv; simp [this]
        rw [List.mapM_cons]
        simp only [Sem.run_bind, Sem.run_pure, Result.andThen_ok, resOne, hg, asAddr, hl h hst n, hr]
      · exact hk.elim
    · exact hk.elim

theorem resK_sound {N : Nat} {a : Act} {e : Env} (H : Fits N a e) {fn : Func} {h : Heap} {n : Nat} {K : Value → Prop} (hk : resK P fn.results.toList e h K) :
    ∃ v, (results fn a.tmps).run P (A.at h n) = .ok v (A.at h n) ∧ K v := by
  obtain ⟨vs, hr, hk⟩ := resAll_sound (A := A) H (n := n) hk
  have hrun : (results fn a.tmps).run P (A.at h n) = .ok (if hh : vs.toArray.size = 1 then vs.toArray[0] else .tuple vs.toArray) (A.at h n) := by
    rw [results_eq, Array.mapM_eq_mapM_toList]
    simp only [Sem.run_bind, Sem.run_map, hr, Result.andThen_ok, Sem.run_pure]
  refine ⟨_, hrun, ?_⟩
  match vs, hk with
  | [], hk => exact hk
  | [v], hk => exact hk
  | u :: v :: r, hk => simpa [oneOf] using hk

theorem leave_sound {fn : Func} {tmps : Array Value} {R : Ending → World → Prop} {K : Heap → Prop} (hK : ∀ h n, K h → LeavesInM (Fw none) 0 P fn tmps R [] .returning (A.at h n)) :
    ∀ (l : List Nat) (h : Heap) (n : Nat), leaveK l h K → LeavesInM (Fw none) 0 P fn tmps R (l.map markOf) .returning (A.at h n)
  | [], h, n, hk => hK h n hk
  | r :: rs, h, n, ⟨hr, hk⟩ => by
    refine ⟨by simp, .inl ⟨r, _, rfl, run_takeDeferred (w := A.at h n) hr, ?_⟩⟩
    exact leave_sound hK rs _ n hk

theorem semFun_sound (hm : P.follows .mixedOrders = true) {f : FuncId} {ann : Ann} {args : List Value} {h : Heap} {R : Value → Heap → Prop} (hk : semFun A P f ann args h R) :
    HCalls A P f args.toArray h R := by
  intro n
  unfold semFun at hk
  split at hk
  · exact hk.elim
  · rename_i fn hf
    split at hk
    · exact hk.elim
    · rename_i c hb
      split at hk
      · rename_i hle
        have hle := Nat.le_of_ble_eq_true hle
        refine callsIn_fw.1 (callsIn_of_wp_marks (F := Fw none) (n := 0) hf hb trivial ?_)
        have H : Fits fn.ntmps { tmps := args.toArray ++ Array.replicate (fn.ntmps - args.toArray.size) undef, defers := [] } { get := argGet 0 args, ds := [] } := by
          refine ⟨by simp; omega, fun t v hv => ?_, rfl⟩
          obtain ⟨_, h2⟩ := argGet_spec hv
          have hlt : t < args.length := (List.getElem?_eq_some_iff.1 (by simpa using h2)).1
          rw [Array.getElem?_append_left (by simpa using hlt)]
          simpa using h2
        refine wpIn_mono (semC_sound hm c 0 false none ann _ h _ _ _ _ n (fun _ => rfl) hk H) ?_
        intro ex a w hp
        obtain ⟨e, h', n', rfl, H', _, hx⟩ := hp
        have fin : retK P fn R e h' → LeavesInM (Fw none) 0 P fn a.tmps (fun e w' => ∃ v, e = .returned v ∧ ∃ h' n', w' = A.at h' n' ∧ R v h') a.defers .returning (A.at h' n') := by
          intro hr
          rw [H'.ds]
          refine leave_sound ?_ e.ds h' n' hr
          intro h2 n2 h3
          obtain ⟨v, hv, hR⟩ := resK_sound (A := A) H' (n := n2) h3
          exact ⟨v, hv, v, rfl, h2, n2, rfl, hR⟩
        cases ex <;> simp only at hx
        · exact fin hx
        · exact fin hx
      · exact hk.elim
end
/-! ### words that a printed formula uses -/
def bAnd (k : IntKind) (a b : Int) : Int := k.wrap ((BitVec.ofInt k.bits a &&& BitVec.ofInt k.bits b).toNat : Int)
def bOr (k : IntKind) (a b : Int) : Int := k.wrap ((BitVec.ofInt k.bits a ||| BitVec.ofInt k.bits b).toNat : Int)
def bXor (k : IntKind) (a b : Int) : Int := k.wrap ((BitVec.ofInt k.bits a ^^^ BitVec.ofInt k.bits b).toNat : Int)
def bAndNot (k : IntKind) (a b : Int) : Int := k.wrap ((BitVec.ofInt k.bits a &&& ~~~BitVec.ofInt k.bits b).toNat : Int)

end Go.Lf
