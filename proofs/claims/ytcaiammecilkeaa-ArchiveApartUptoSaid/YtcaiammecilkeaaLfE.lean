/-
  LIFT, part E: what the formula of an operation stands for: operations that read no memory.
-/
import Derived.Test.YtcaiammecilkeaaLfD
namespace Go.Lf
section
variable {P : Program}

def PR (P : Program) (s : Sem Value) (K : Value → Prop) : Prop := ∃ v, (∀ w, s.run P w = .ok v w) ∧ K v

theorem default_sound {N : Nat} {a : Act} {e : Env} (H : Fits N a e) {o : Oper} {K : Value → Prop} (hs : notSelect o)
    (h : known e o.op.operands.toList (CalcK P (execOp (ρof e) o) fun x => match x with | .value v => K v | _ => False)) :
    ∃ v, (∀ w, (execOp a.eval o).run P w = .ok (.value v) w) ∧ K v := by
  obtain ⟨h1, h2⟩ := known_sound H h
  obtain ⟨x, hx, hK⟩ := calcK_sound h2
  rw [execOp_congr o hs (fun x hx => h1 x (by simpa using hx))] at hx
  cases x <;> simp only [] at hK
  exact ⟨_, hx, hK⟩

theorem div_sound {op : BinOp} {t : TypeId} {x y : Operand} {v u : Value} {K : Value → Prop} (hop : op = .quo ∨ op = .rem) (h : divK op v u K) : PR P (do eqGuard op t x y v u; binOp op t v u) K := by
  unfold divK at h
  cases v <;> cases u <;> simp only [] at h <;> try exact h.elim
  rename_i k a k' b
  by_cases hk : k = k'
  · subst hk
    rcases hop with rfl | rfl
    · simp only [decide_true] at h
      obtain ⟨hb, h⟩ := h
      exact ⟨_, fun w => by simp [eqGuard, binOp, Op.intDiv, hb], h⟩
    · simp only [decide_true] at h
      obtain ⟨hb, h⟩ := h
      exact ⟨_, fun w => by simp [eqGuard, binOp, Op.intDiv, hb], h⟩
  · rw [decide_eq_false hk] at h
    exact h.elim

theorem sh_sound {op : BinOp} {t : TypeId} {x y : Operand} {v u : Value} {K : Value → Prop} (hop : op = .shl ∨ op = .shr) (h : shK op v u K) : PR P (do eqGuard op t x y v u; binOp op t v u) K := by
  unfold shK at h
  cases v <;> cases u <;> simp only [] at h <;> try exact h.elim
  rcases hop with rfl | rfl
  · simp only [] at h
    obtain ⟨hb, h⟩ := h
    exact ⟨_, fun w => by simp [eqGuard, binOp, Op.shift, Int.not_lt.2 hb], h⟩
  · simp only [] at h
    obtain ⟨hb, h⟩ := h
    exact ⟨_, fun w => by simp [eqGuard, binOp, Op.shift, Int.not_lt.2 hb], h⟩

theorem cat_sound {t : TypeId} {x y : Operand} {v u : Value} {K : Value → Prop} (h : catK v u K) : PR P (do eqGuard .add t x y v u; binOp .add t v u) K := by
  unfold catK at h
  cases v <;> cases u <;> simp only [] at h <;> try exact h.elim
  obtain ⟨hb, h⟩ := h
  refine ⟨_, fun w => ?_, h⟩
  have hb' : ¬ ((( _ : ByteArray).size + (_ : ByteArray).size : Nat) : Int) > IntKind.i64.max := Int.not_lt.2 hb
  simp only [eqGuard, binOp, Op.stringOp, if_neg hb']
  rfl

theorem nil_eql {t : TypeId} {v u : Value} {K : Bool → Prop} (h : nilK P t v K) (hu : nilOf P t = some u) :
    ∃ b, (∀ w, (Op.equal t v u).run P w = .ok b w) ∧ (∀ w, (Op.equal t u v).run P w = .ok b w) ∧ K b := equalIn_nilY 9999 h hu

theorem binOp_eql {op : BinOp} {t : TypeId} {v u : Value} {b : Bool} (hop : op = .eql ∨ op = .neq) (hu : nilOf P t = some u) {w : World} (h : (Op.equal t v u).run P w = .ok b w) :
    (binOp op t v u).run P w = .ok (eqRes op b) w ∧ True := by
  have hn : u = .pointer none ∨ u = .slice none 0 0 ∨ u = .map none ∨ u = .nilFunc ∨ u = .nilIface := by
    unfold nilOf at hu
    split at hu <;> simp at hu <;> subst hu <;> simp
  refine ⟨?_, trivial⟩
  rcases hop with rfl | rfl
  · rcases hn with rfl | rfl | rfl | rfl | rfl <;> cases v <;> simp [binOp, h, eqRes]
  · rcases hn with rfl | rfl | rfl | rfl | rfl <;> cases v <;> simp [binOp, h, eqRes]

theorem binOp_eql' {op : BinOp} {t : TypeId} {v u : Value} {b : Bool} (hop : op = .eql ∨ op = .neq) (hu : nilOf P t = some u) {w : World} (h : (Op.equal t u v).run P w = .ok b w) :
    (binOp op t u v).run P w = .ok (eqRes op b) w ∧ True := by
  have hn : u = .pointer none ∨ u = .slice none 0 0 ∨ u = .map none ∨ u = .nilFunc ∨ u = .nilIface := by
    unfold nilOf at hu
    split at hu <;> simp at hu <;> subst hu <;> simp
  refine ⟨?_, trivial⟩
  rcases hop with rfl | rfl
  · rcases hn with rfl | rfl | rfl | rfl | rfl <;> cases v <;> simp [binOp, h, eqRes]
  · rcases hn with rfl | rfl | rfl | rfl | rfl <;> cases v <;> simp [binOp, h, eqRes]

theorem eqGuard_nil {op : BinOp} {t : TypeId} {x y : Operand} {v u : Value} {w : World} (hop : op = .eql ∨ op = .neq) (hu : nilOf P t = some u) (hc : (∃ c, x = .const c) ∨ (∃ c, y = .const c)) :
    (eqGuard op t x y v u).run P w = .ok () w ∧ (eqGuard op t x y u v).run P w = .ok () w := by
  have hn : u = .pointer none ∨ u = .slice none 0 0 ∨ u = .map none ∨ u = .nilFunc ∨ u = .nilIface := by
    unfold nilOf at hu
    split at hu <;> simp at hu <;> subst hu <;> simp
  clear hu
  rcases hop with rfl | rfl <;> rcases hc with ⟨c, rfl⟩ | ⟨c, rfl⟩ <;> rcases hn with rfl | rfl | rfl | rfl | rfl <;> cases v <;> exact ⟨by simp [eqGuard], by simp [eqGuard]⟩

theorem bin_sound {op : BinOp} {t : TypeId} {x y : Operand} {v u : Value} {K : Value → Prop} (hx : ∀ c, x = .const c → v = c) (hy : ∀ c, y = .const c → u = c) (h : binK P op t x y v u K) :
    PR P (do eqGuard op t x y v u; binOp op t v u) K := by
  unfold binK at h
  cases hc : binCls P op t x y with
  | reck => rw [hc] at h; exact calcK_sound h
  | no => rw [hc] at h; exact h.elim
  | div =>
    rw [hc] at h
    refine div_sound ?_ h
    unfold binCls at hc
    cases op <;> simp only [] at hc <;> first | exact .inl rfl | exact .inr rfl | (exfalso; split at hc <;> first | (cases hc; done) | (split at hc <;> first | (cases hc; done) | (split at hc <;> cases hc)))
  | shift =>
    rw [hc] at h
    refine sh_sound ?_ h
    unfold binCls at hc
    cases op <;> simp only [] at hc <;> first | exact .inl rfl | exact .inr rfl | (exfalso; split at hc <;> first | (cases hc; done) | (split at hc <;> first | (cases hc; done) | (split at hc <;> cases hc)))
  | cat =>
    rw [hc] at h
    have : op = .add := by
      unfold binCls at hc
      cases op <;> simp only [] at hc <;> first | rfl | (exfalso; split at hc <;> first | (cases hc; done) | (split at hc <;> first | (cases hc; done) | (split at hc <;> cases hc)))
    subst this
    exact cat_sound h
  | nilY =>
    rw [hc] at h
    have hop : (op = .eql ∨ op = .neq) ∧ isNilOf P t y = true := by
      unfold binCls at hc
      cases op <;> simp only [] at hc <;> first
        | (refine ⟨.inl rfl, ?_⟩; split at hc <;> first | (cases hc; done) | (split at hc <;> first | assumption | (split at hc <;> cases hc)))
        | (refine ⟨.inr rfl, ?_⟩; split at hc <;> first | (cases hc; done) | (split at hc <;> first | assumption | (split at hc <;> cases hc)))
        | (exfalso; split at hc <;> first | (cases hc; done) | (split at hc <;> first | (cases hc; done) | (split at hc <;> cases hc)))
    obtain ⟨hop, hn⟩ := hop
    obtain ⟨c, hyc, hnc⟩ := isNilOf_spec hn
    have := hy c hyc
    subst this
    obtain ⟨b, h1, _, h3⟩ := nil_eql h hnc
    refine ⟨eqRes op b, fun w => ?_, h3⟩
    rw [Sem.run_bind, (eqGuard_nil hop hnc (.inr ⟨_, hyc⟩)).1]
    exact (binOp_eql hop hnc (h1 w)).1
  | nilX =>
    rw [hc] at h
    have hop : (op = .eql ∨ op = .neq) ∧ isNilOf P t x = true := by
      unfold binCls at hc
      cases op <;> simp only [] at hc <;> first
        | (refine ⟨.inl rfl, ?_⟩; split at hc <;> first | (cases hc; done) | (split at hc <;> first | (cases hc; done) | (split at hc <;> first | assumption | (cases hc; done))))
        | (refine ⟨.inr rfl, ?_⟩; split at hc <;> first | (cases hc; done) | (split at hc <;> first | (cases hc; done) | (split at hc <;> first | assumption | (cases hc; done))))
        | (exfalso; split at hc <;> first | (cases hc; done) | (split at hc <;> first | (cases hc; done) | (split at hc <;> cases hc)))
    obtain ⟨hop, hn⟩ := hop
    obtain ⟨c, hxc, hnc⟩ := isNilOf_spec hn
    have := hx c hxc
    subst this
    obtain ⟨b, _, h2, h3⟩ := nil_eql h hnc
    refine ⟨eqRes op b, fun w => ?_, h3⟩
    rw [Sem.run_bind, (eqGuard_nil hop hnc (.inl ⟨_, hxc⟩)).2]
    exact (binOp_eql' hop hnc (h2 w)).1
end
end Go.Lf
