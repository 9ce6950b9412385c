/-
  LIFT, part E: what the formula of an operation stands for: operations that read no memory.
-/
import Derived.Test.YtbbikicpamgbmaaGreatDoorLfAToD
namespace Go.Lf
section
variable {P : Program}

def PR (P : Program) (s : Sem Value) (K : Value → Prop) : Prop := ∃ v, (∀ w, s.run P w = .ok v w) ∧ K v

theorem default_sound {N : Nat} {a : Act} {e : Env} (H : Fits N a e) {o : Oper} {K : Value → Prop} (hs : notSelect o)
    (h : known e o.op.operands.toList (CalcK P (execOp (ρof e) o) fun x => match x with | .value v => K v | _ => False)) :
    ∃ v, (∀ w, (execOp a.eval o).run P w = .ok (.value v) w) ∧ K v := by
  obtain ⟨h1, h2⟩ := known_sound H h
  obtain ⟨x, hx, hK⟩ := calcK_sound h2
  rw [execOp_congr o hs (fun x hx => h1 x (by simpa using hx))] at hx
  cases x <;> simp only [] at hK
  exact ⟨_, hx, hK⟩

theorem div_sound {op : BinOp} {t : TypeId} {x y : Operand} {v u : Value} {K : Value → Prop} (hop : op = .quo ∨ op = .rem) (h : divK op v u K) : PR P (do eqGuard op t x y v u; binOp op t v u) K := by
  unfold divK at h
  cases v <;> cases u <;> simp only [] at h <;> try exact h.elim
  rename_i k a k' b
  by_cases hk : k = k'
  · subst hk
    rcases hop with rfl | rfl
    · simp only [decide_true] at h
      obtain ⟨hb, h⟩ := h
      exact ⟨_, fun w => by simp [eqGuard, binOp, Op.intDiv, hb], h⟩
    · simp only [decide_true] at h
      obtain ⟨hb, h⟩ := h
      exact ⟨_, fun w => by simp [eqGuard, binOp, Op.intDiv, hb], h⟩
  · rw [decide_eq_false hk] at h
    exact h.elim

theorem sh_sound {op : BinOp} {t : TypeId} {x y : Operand} {v u : Value} {K : Value → Prop} (hop : op = .shl ∨ op = .shr) (h : shK op v u K) : PR P (do eqGuard op t x y v u; binOp op t v u) K := by
  unfold shK at h
  cases v <;> cases u <;> simp only [] at h <;> try exact h.elim
  rcases hop with rfl | rfl
  · simp only [] at h
    obtain ⟨hb, h⟩ := h
    exact ⟨_, fun w => by simp [eqGuard, binOp, Op.shift, Int.not_lt.2 hb], h⟩
  · simp only [] at h
    obtain ⟨hb, h⟩ := h
    exact ⟨_, fun w => by simp [eqGuard, binOp, Op.shift, Int.not_lt.2 hb], h⟩

theorem cat_sound {t : TypeId} {x y : Operand} {v u : Value} {K : Value → Prop} (h : catK v u K) : PR P (do eqGuard .add t x y v u; binOp .add t v u) K := by
  unfold catK at h
  cases v <;> cases u <;> simp only [] at h <;> try exact h.elim
  obtain ⟨hb, h⟩ := h
  refine ⟨_, fun w => ?_, h⟩
  have hb' : ¬ ((( _ : ByteArray).size + (_ : ByteArray).size : Nat) : Int) > IntKind.i64.max := Int.not_lt.2 hb
  simp only [eqGuard, binOp, Op.stringOp, if_neg hb']
  rfl

theorem nil_eql {t : TypeId} {v u : Value} {K : Bool → Prop} (h : nilK P t v K) (hu : nilOf P t = some u) :
    ∃ b, (∀ w, (Op.equal t v u).run P w = .ok b w) ∧ (∀ w, (Op.equal t u v).run P w = .ok b w) ∧ K b := equalIn_nilY 9999 h hu

theorem binOp_eql {op : BinOp} {t : TypeId} {v u : Value} {b : Bool} (hop : op = .eql ∨ op = .neq) (hu : nilOf P t = some u) {w : World} (h : (Op.equal t v u).run P w = .ok b w) :
    (binOp op t v u).run P w = .ok (eqRes op b) w ∧ True := by
  have hn : u = .pointer none ∨ u = .slice none 0 0 ∨ u = .map none ∨ u = .nilFunc ∨ u = .nilIface := by
    unfold nilOf at hu
    split at hu <;> simp at hu <;> subst hu <;> simp
  refine ⟨?_, trivial⟩
  rcases hop with rfl | rfl
  · rcases hn with rfl | rfl | rfl | rfl | rfl <;> cases v <;> simp [binOp, h, eqRes]
  · rcases hn with rfl | rfl | rfl | rfl | rfl <;> cases v <;> simp [binOp, h, eqRes]

theorem binOp_eql' {op : BinOp} {t : TypeId} {v u : Value} {b : Bool} (hop : op = .eql ∨ op = .neq) (hu : nilOf P t = some u) {w : World} (h : (Op.equal t u v).run P w = .ok b w) :
    (binOp op t u v).run P w = .ok (eqRes op b) w ∧ True := by
  have hn : u = .pointer none ∨ u = .slice none 0 0 ∨ u = .map none ∨ u = .nilFunc ∨ u = .nilIface := by
    unfold nilOf at hu
    split at hu <;> simp at hu <;> subst hu <;> simp
  refine ⟨?_, trivial⟩
  rcases hop with rfl | rfl
  · rcases hn with rfl | rfl | rfl | rfl | rfl <;> cases v <;> simp [binOp, h, eqRes]
  · rcases hn with rfl | rfl | rfl | rfl | rfl <;> cases v <;> simp [binOp, h, eqRes]

theorem eqGuard_nil {op : BinOp} {t : TypeId} {x y : Operand} {v u : Value} {w : World} (hop : op = .eql ∨ op = .neq) (hu : nilOf P t = some u) (hc : (∃ c, x = .const c) ∨ (∃ c, y = .const c)) :
    (eqGuard op t x y v u).run P w = .ok () w ∧ (eqGuard op t x y u v).run P w = .ok () w := by
  have hn : u = .pointer none ∨ u = .slice none 0 0 ∨ u = .map none ∨ u = .nilFunc ∨ u = .nilIface := by
    unfold nilOf at hu
    split at hu <;> simp at hu <;> subst hu <;> simp
  clear hu
  rcases hop with rfl | rfl <;> rcases hc with ⟨c, rfl⟩ | ⟨c, rfl⟩ <;> rcases hn with rfl | rfl | rfl | rfl | rfl <;> cases v <;> exact ⟨by simp [eqGuard], by simp [eqGuard]⟩

theorem bin_sound {op : BinOp} {t : TypeId} {x y : Operand} {v u : Value} {K : Value → Prop} (hx : ∀ c, x = .const c → v = c) (hy : ∀ c, y = .const c → u = c) (h : binK P op t x y v u K) :
    PR P (do eqGuard op t x y v u; binOp op t v u) K := by
  unfold binK at h
  cases hc : binCls P op t x y with
  | reck => rw [hc] at h; exact calcK_sound h
  | no => rw [hc] at h; exact h.elim
  | div =>
    rw [hc] at h
    refine div_sound ?_ h
    unfold binCls at hc
    cases op <;> simp only [] at hc <;> first | exact .inl rfl | exact .inr rfl | (exfalso; split at hc <;> first | (cases hc; done) | (split at hc <;> first | (cases hc; done) | (split at hc <;> cases hc)))
  | shift =>
    rw [hc] at h
    refine sh_sound ?_ h
    unfold binCls at hc
    cases op <;> simp only [] at hc <;> first | exact .inl rfl | exact .inr rfl | (exfalso; split at hc <;> first | (cases hc; done) | (split at hc <;> first | (cases hc; done) | (split at hc <;> cases hc)))
  | cat =>
    rw [hc] at h
    have : op = .add := by
      unfold binCls at hc
      cases op <;> simp only [] at hc <;> first | rfl | (exfalso; split at hc <;> first | (cases hc; done) | (split at hc <;> first | (cases hc; done) | (split at hc <;> cases hc)))
    subst this
    exact cat_sound h
  | nilY =>
    rw [hc] at h
    have hop : (op = .eql ∨ op = .neq) ∧ isNilOf P t y = true := by
      unfold binCls at hc
      cases op <;> simp only [] at hc <;> first
        | (refine ⟨.inl rfl, ?_⟩; split at hc <;> first | (cases hc; done) | (split at hc <;> first | assumption | (split at hc <;> cases hc)))
        | (refine ⟨.inr rfl, ?_⟩; split at hc <;> first | (cases hc; done) | (split at hc <;> first | assumption | (split at hc <;> cases hc)))
        | (exfalso; split at hc <;> first | (cases hc; done) | (split at hc <;> first | (cases hc; done) | (split at hc <;> cases hc)))
    obtain ⟨hop, hn⟩ := hop
    obtain ⟨c, hyc, hnc⟩ := isNilOf_spec hn
    have := hy c hyc
    subst this
    obtain ⟨b, h1, _, h3⟩ := nil_eql h hnc
    refine ⟨eqRes op b, fun w => ?_, h3⟩
    rw [Sem.run_bind, (eqGuard_nil hop hnc (.inr ⟨_, hyc⟩)).1]
    exact (binOp_eql hop hnc (h1 w)).1
  | nilX =>
    rw [hc] at h
    have hop : (op = .eql ∨ op = .neq) ∧ isNilOf P t x = true := by
      unfold binCls at hc
      cases op <;> simp only [] at hc <;> first
        | (refine ⟨.inl rfl, ?_⟩; split at hc <;> first | (cases hc; done) | (split at hc <;> first | (cases hc; done) | (split at hc <;> first | assumption | (cases hc; done))))
        | (refine ⟨.inr rfl, ?_⟩; split at hc <;> first | (cases hc; done) | (split at hc <;> first | (cases hc; done) | (split at hc <;> first | assumption | (cases hc; done))))
        | (exfalso; split at hc <;> first | (cases hc; done) | (split at hc <;> first | (cases hc; done) | (split at hc <;> cases hc)))
    obtain ⟨hop, hn⟩ := hop
    obtain ⟨c, hxc, hnc⟩ := isNilOf_spec hn
    have := hx c hxc
    subst this
    obtain ⟨b, _, h2, h3⟩ := nil_eql h hnc
    refine ⟨eqRes op b, fun w => ?_, h3⟩
    rw [Sem.run_bind, (eqGuard_nil hop hnc (.inl ⟨_, hxc⟩)).2]
    exact (binOp_eql' hop hnc (h2 w)).1
end
end Go.Lf

/-
  LIFT, part F: what a formula stands for: addresses, slices, the whole of an operation that reads no memory; loads.
-/
namespace Go.Lf
section
variable {P : Program}

theorem run_asIntOf (k : IntKind) (n : Int) (w : World) : (asIntOf (.int k n)).run P w = .ok (k, n) w := rfl

theorem idxAddr_sound {t : TypeId} {v i : Value} {K : Value → Prop} (h : idxAddrK P t v i K) : PR P (Instr.indexAt t v i) K := by
  unfold idxAddrK at h
  split at h
  · rename_i el ht
    split at h
    · rename_i p len c k n ei hei
      obtain ⟨a, rfl, ⟨h0, h1⟩, h⟩ := h
      refine ⟨_, fun w => ?_, h⟩
      simp [Instr.indexAt, asIntOf, run_und ht, run_sizeOf hei, h0, h1]
    · exact h.elim
  · rename_i len el ht
    split at h
    · rename_i p k n ei hei
      obtain ⟨a, rfl, h⟩ := At.mk h
      obtain ⟨⟨h0, h1⟩, h⟩ := h
      refine ⟨_, fun w => ?_, h⟩
      simp [Instr.indexAt, asIntOf, run_und ht, run_sizeOf hei, h0, h1, Instr.sureAddr]
    · exact h.elim
  · exact h.elim

theorem index_sound {t : TypeId} {v i : Value} {K : Value → Prop} (h : indexK P t v i K) : PR P (Instr.index t v i) K := by
  unfold indexK at h
  split at h
  · rename_i ht
    split at h
    · rename_i s k n
      obtain ⟨⟨h0, h1⟩, h⟩ := h
      refine ⟨_, fun w => ?_, h⟩
      have hlt : n.toNat < s.size := by omega
      have hs : s[n.toNat]? = some s[n.toNat] := by simp [hlt]
      simp [Instr.index, asIntOf, run_und ht, h0, hs, sAt]
    · exact h.elim
  · exact calcK_sound h
  · exact h.elim

theorem bnd_sound {x : Option Value} {d max : Nat} {K : Nat → Prop} (h : bndK x d max K) :
    (x = none ∧ K d) ∨ ∃ k n, x = some (.int k n) ∧ 0 ≤ n ∧ n ≤ (max : Int) ∧ K n.toNat := by
  unfold bndK at h
  split at h
  · rename_i k n
    obtain ⟨⟨h0, h1⟩, h⟩ := h
    exact .inr ⟨k, n, rfl, h0, h1, h⟩
  · exact .inl ⟨rfl, h⟩
  · exact h.elim

theorem run_sliceBound {k : IntKind} {n : Int} {y : Nat} {code : BoundsCode} (h0 : 0 ≤ n) (h1 : n ≤ (y : Int)) (w : World) :
    (Instr.sliceBound (.int k n) y code).run P w = .ok n.toNat w := by
  simp [Instr.sliceBound, asIntOf, h0, h1]

theorem run_sliceBounds {b : Bool} {len cap : Nat} {lo hi : Option Value} {K : Nat → Nat → Prop}
    (hb : bndK hi len cap fun h => bndK lo 0 h fun l => K l h) : ∃ l h, (∀ w, (Instr.sliceBounds b len cap lo hi none).run P w = .ok (l, h, cap) w) ∧ K l h := by
  obtain ⟨e1, k1⟩ | ⟨k, n, e1, h0, h1, k1⟩ := bnd_sound hb
  · obtain ⟨e2, k2⟩ | ⟨k', n', e2, h0', h1', k2⟩ := bnd_sound k1
    · exact ⟨_, _, fun w => by simp [Instr.sliceBounds, e1, e2], k2⟩
    · exact ⟨_, _, fun w => by simp [Instr.sliceBounds, e1, e2, run_sliceBound h0' h1'], k2⟩
  · obtain ⟨e2, k2⟩ | ⟨k', n', e2, h0', h1', k2⟩ := bnd_sound k1
    · exact ⟨_, _, fun w => by simp [Instr.sliceBounds, e1, e2, run_sliceBound h0 h1], k2⟩
    · exact ⟨_, _, fun w => by simp [Instr.sliceBounds, e1, e2, run_sliceBound h0 h1, run_sliceBound h0' h1'], k2⟩

theorem slice_sound {t : TypeId} {v : Value} {lo hi : Option Value} {K : Value → Prop} (h : sliceK P t v lo hi K) : PR P (Instr.sliceAt t v lo hi none) K := by
  unfold sliceK at h
  split at h
  · rename_i ht
    split at h
    · rename_i s
      obtain ⟨l, hh, hr, h⟩ := run_sliceBounds (P := P) (b := false) h
      refine ⟨_, fun w => ?_, h⟩
      simp [Instr.sliceAt, Instr.slice, run_und ht, hr]
    · exact h.elim
  · rename_i el ht
    split at h
    · rename_i p len cap ei hei
      obtain ⟨l, hh, hr, h⟩ := run_sliceBounds (P := P) (b := true) h
      refine ⟨_, fun w => ?_, h⟩
      simp [Instr.sliceAt, Instr.slice, run_und ht, hr, run_sizeOf hei, slOff]
    · exact h.elim
  · rename_i n el ht
    split at h
    · rename_i p ei hei
      obtain ⟨a, rfl, hk⟩ := At.mk h
      obtain ⟨l, hh, hr, h⟩ := run_sliceBounds (P := P) (b := false) hk
      refine ⟨_, fun w => ?_, h⟩
      simp [Instr.sliceAt, run_und ht, hr, run_sizeOf hei, Instr.sureAddr]
    · exact h.elim
  · exact h.elim

theorem PIf.mk {b : Bool} {X Y : Prop} (h : PIf b X Y) : (b = true → X) ∧ (b = false → Y) := by
  cases b
  · exact ⟨fun h => (by cases h), fun _ => h⟩
  · exact ⟨fun _ => h, fun h => (by cases h)⟩

theorem pick_sound {c : Bool} {a b : Option Value} {va vb : Value} (ha : ∀ v, a = some v → va = v) (hb : ∀ v, b = some v → vb = v) {K : Value → Prop} (h : pickK c a b K) :
    K (if c then va else vb) := by
  unfold pickK at h
  split at h
  · rename_i x y
    rw [ha _ rfl, hb _ rfl]
    cases c <;> exact h
  · rename_i x y _
    rw [ha _ rfl, hb _ rfl]
    cases c <;> exact h
  · rename_i x
    rw [ha _ rfl]
    cases c
    · exact h.elim
    · exact h
  · rename_i y
    rw [hb _ rfl]
    cases c
    · exact h
    · exact h.elim
  · exact h.elim

theorem optK_sound {N : Nat} {a : Act} {e : Env} (H : Fits N a e) {x : Option Operand} {K : Option Value → Prop} (h : optK e x K) : K (x.map a.eval) := by
  cases x with
  | none => exact h
  | some x => exact rd_sound H h

theorem partsK_sound {N : Nat} {a : Act} {e : Env} (H : Fits N a e) {t : TypeId} : ∀ {l : List (Nat × Operand)} {K : List (Nat × Array Value) → Prop}, partsK P t e l K → K (l.map fun p => (p.1, (a.eval p.2).cells))
  | [], K, h => h
  | (i, x) :: r, K, h => by
    unfold partsK at h
    split at h
    · have h2 := cellsK_sound (rd_sound H h)
      have h3 := partsK_sound H h2
      exact h3
    · exact h.elim

theorem placesOf_eq : ∀ (fs : List Field), placesOf P fs = fs.mapM (fun f => (P.info? f.type).map fun i => (f.offset, i.size))
  | [] => rfl
  | f :: r => by
    simp only [placesOf, List.mapM_cons, Option.bind_eq_bind, Option.pure_def, placesOf_eq r]
    cases P.info? f.type with
    | none => rfl
    | some i => simp only [Option.map_some, Option.bind_some]; cases r.mapM (fun f => (P.info? f.type).map fun i => (f.offset, i.size)) <;> rfl

theorem builtC_run {t : TypeId} {parts : Array (Nat × Value)} {cells : Array Value} (h : builtC P t (parts.toList.map fun p => (p.1, p.2.cells)) = some cells) (w : World) :
    (Instr.build t parts).run P w = .ok (.agg cells) w := by
  unfold builtC at h
  split at h
  · rename_i it hit
    split at h
    · rename_i z hz
      split at h
      · rename_i fs hu
        split at h
        · rename_i l hl
          rw [← fill_eq] at h
          rw [placesOf_eq] at hl
          have h' : Instr.fill (fun x => l[x]?) z.cells parts.toList = some cells := by simpa using h
          simp [Instr.build, run_underlying hu, typeInfo, zeroValue, hit, hz, Array.mapM_eq_mapM_toList, run_places w _ _ hl, h']
        · cases h
      · rename_i n el hu
        split at h
        · rename_i ei hie
          rw [← fill_eq] at h
          simp [Instr.build, run_underlying hu, sizeOf, typeInfo, zeroValue, hit, hz, hie, h]
        · cases h
      · cases h
    · cases h
  · cases h

theorem pure_sound {N : Nat} {a : Act} {e : Env} (H : Fits N a e) {o : Oper} {K : Value → Prop} (hs : notSelect o) (h : pureK P o e K) :
    ∃ v, (∀ w, (execOp a.eval o).run P w = .ok (.value v) w) ∧ K v := by
  have lift : ∀ {s : Sem Value}, PR P s K → (execOp a.eval o = do pure (.value (← s))) → ∃ v, (∀ w, (execOp a.eval o).run P w = .ok (.value v) w) ∧ K v := by
    intro s ⟨v, hv, hK⟩ he
    exact ⟨v, fun w => by rw [he]; exact run_v (hv w), hK⟩
  have dflt := default_sound (P := P) H (o := o) (K := K) hs
  unfold pureK at h
  cases ho : o.op
  case nilCheck x =>
    rw [ho] at h
    have h := rd_sound H h
    unfold nilChkK at h
    cases hx : a.eval x <;> rw [hx] at h <;> simp only [] at h
    rename_i p
    obtain ⟨b, rfl, h⟩ := At.mk h
    exact ⟨_, fun w => by simp [execOp, ho, hx], h⟩
  case binOp op t x y t' =>
    rw [ho] at h
    have h := rd_sound H (rd_sound H h)
    refine lift (bin_sound (fun c hc => by subst hc; rfl) (fun c hc => by subst hc; rfl) h) ?_
    simp [execOp, ho]
  case indexAddr t x i =>
    rw [ho] at h
    have h := rd_sound H (rd_sound H h)
    refine lift (idxAddr_sound h) ?_
    simp [execOp, ho]
  case index t x i =>
    rw [ho] at h
    have h := rd_sound H (rd_sound H h)
    refine lift (index_sound h) ?_
    simp [execOp, ho]
  case slice t x lo hi mx =>
    rw [ho] at h
    cases mx with
    | some m => exact h.elim
    | none =>
      have h := optK_sound H (optK_sound H (rd_sound H h))
      refine lift (slice_sound h) ?_
      simp [execOp, ho]
  case build t parts =>
    rw [ho] at h
    have h := partsK_sound H h
    split at h
    · rename_i cells hc
      refine ⟨_, fun w => ?_, h⟩
      simp only [execOp, ho]
      refine run_v (builtC_run ?_ w)
      rw [← hc]
      congr 1
      simp
    · exact h.elim
  case pick c x y =>
    rw [ho] at h
    have h := rd_sound H h
    cases hc : a.eval c <;> rw [hc] at h <;> simp only [] at h
    rename_i b
    have h := pick_sound (va := a.eval x) (vb := a.eval y) (fun v hv => H.rdv hv) (fun v hv => H.rdv hv) h
    exact ⟨_, fun w => by simp [execOp, ho, hc, asBool], h⟩
  all_goals (rw [ho] at h; simp only [] at h; rw [← ho] at h; exact dflt h)

/-! ### loads -/
def cellsAre (h : Heap) (a : Addr) : Nat → List Value → Prop
  | _, [] => True
  | i, [v] => hget h (a.add i) = some v
  | i, v :: vs => hget h (a.add i) = some v ∧ cellsAre h a (i + 1) vs

def loadT (P : Program) (t : TypeId) (h : Heap) (a : Addr) (K : Value → (Heap → Prop) → Prop) : Prop :=
  match isAggB P t with
  | true => match P.info? t with
    | some i => match Nat.beq (scsOf P 20 t).length i.size with
      | true => loadAll h a 0 (scsOf P 20 t) fun vs => K (.agg vs.toArray) (fun h' => cellsAre h' a 0 vs)
      | false => False
    | none => False
  | false => match P.underlying t with
    | some _ => match scsOf P 20 t with
      | [s] => s.load h a fun x => K (s.val x) (fun h' => hget h' a = some (s.val x))
      | _ => False
    | none => False

def loadK (P : Program) (o : Oper) (e : Env) (h : Heap) (K : Value → (Heap → Prop) → Prop) : Prop :=
  match o.op with
  | .load t x => rd e x fun v => match v with
    | .pointer p => At p fun a => loadT P t h a K
    | _ => False
  | _ => False

theorem cellsAre_cons {h : Heap} {a : Addr} {i : Nat} {v : Value} {vs : List Value} : cellsAre h a i (v :: vs) ↔ hget h (a.add i) = some v ∧ cellsAre h a (i + 1) vs := by
  cases vs with
  | nil => simp [cellsAre]
  | cons u us => simp [cellsAre]

theorem loadAll_sound {h : Heap} {a : Addr} : ∀ {l : List Sc} {i : Nat} {K : List Value → Prop}, loadAll h a i l K → ∃ vs, vs.length = l.length ∧ cellsAre h a i vs ∧ K vs
  | [], _, _, hk => ⟨[], rfl, trivial, hk⟩
  | s :: l, i, K, hk => by
    obtain ⟨x, hx, hk⟩ := Sc.load_sound hk
    obtain ⟨vs, hl, hc, hk⟩ := loadAll_sound hk
    exact ⟨s.val x :: vs, by simp [hl], cellsAre_cons.2 ⟨hx, hc⟩, hk⟩

theorem run_loadCellsFrom {A : Amb} {h : Heap} {a : Addr} {n : Nat} : ∀ {vs : List Value} {i : Nat} {acc : Array Value}, cellsAre h a i vs →
    (loadCellsFrom a i vs.length acc).run P (A.at h n) = .ok (acc ++ vs.toArray) (A.at h n)
  | [], _, acc, _ => by simp [loadCellsFrom]
  | v :: vs, i, acc, hc => by
    obtain ⟨h1, h2⟩ := cellsAre_cons.1 hc
    have ih := run_loadCellsFrom (A := A) (n := n) (acc := acc.push v) h2
    have hl : (load (a.add i)).run P (A.at h n) = .ok v (A.at h n) := by
      have h1' : (A.at h n).cell? (a.add i) = some v := h1
      simp [load, Sem.run, h1']
    simp only [List.length_cons, loadCellsFrom, Sem.run_bind, hl, Result.andThen_ok, ih]
    simp

theorem run_isAgg {t : TypeId} {w : World} (hu : ∃ d, P.underlying t = some d) : (isAgg t).run P w = .ok (isAggB P t) w := by
  obtain ⟨d, hd⟩ := hu
  unfold isAgg isAggB
  rw [hd]
  cases d <;> simp [run_und hd]

theorem loadT_sound {A : Amb} {t : TypeId} {h : Heap} {a : Addr} {K : Value → (Heap → Prop) → Prop} (hk : loadT P t h a K) :
    ∃ v st, (∀ hp, st hp → ∀ n, (loadVar t a).run P (A.at hp n) = .ok v (A.at hp n)) ∧ st h ∧ K v st := by
  unfold loadT at hk
  cases hb : isAggB P t with
  | true =>
    rw [hb] at hk
    simp only [] at hk
    have hu : ∃ d, P.underlying t = some d := by
      cases hu : P.underlying t with
      | none => simp [isAggB, hu] at hb
      | some d => exact ⟨d, rfl⟩
    split at hk
    · rename_i ei hei
      split at hk
      · rename_i hl
        have hl := Nat.eq_of_beq_eq_true hl
        obtain ⟨vs, hvl, hc, hk⟩ := loadAll_sound hk
        refine ⟨_, _, fun hp hst n => ?_, hc, hk⟩
        have hr := run_loadCellsFrom (P := P) (A := A) (n := n) (acc := #[]) hst
        simp only [loadVar, Sem.run_bind, run_isAgg hu, hb, Result.andThen_ok, if_true, run_sizeOf hei]
        rw [← hl, ← hvl]
        simp only [loadCells, hr, Result.andThen_ok]
        simp
      · exact hk.elim
    · exact hk.elim
  | false =>
    rw [hb] at hk
    simp only [] at hk
    split at hk
    · rename_i d hd
      split at hk
      · rename_i s _
        obtain ⟨x, hx, hk⟩ := Sc.load_sound hk
        refine ⟨_, _, fun hp hst n => ?_, hx, hk⟩
        have h1' : (A.at hp n).cell? a = some (s.val x) := hst
        simp [loadVar, run_isAgg ⟨d, hd⟩, hb, load, Sem.run, h1']
      · exact hk.elim
    · exact hk.elim

theorem load_sound {A : Amb} {N : Nat} {a : Act} {e : Env} (H : Fits N a e) {o : Oper} {h : Heap} {K : Value → (Heap → Prop) → Prop} (hk : loadK P o e h K) :
    ∃ v st, (∀ hp, st hp → exq P A o a.eval v hp) ∧ st h ∧ K v st := by
  unfold loadK at hk
  split at hk
  · rename_i t x ho
    have hk := rd_sound H hk
    split at hk
    · rename_i p hp
      obtain ⟨b, rfl, hk⟩ := At.mk hk
      obtain ⟨v, st, hr, hst, hk⟩ := loadT_sound (A := A) hk
      refine ⟨v, st, fun hp' hst' n => ?_, hst, hk⟩
      have := hr hp' hst' n
      simp only [execOp, ho, hp]
      refine run_v ?_
      simp only [Instr.loadAt, Instr.sureAddr, Sem.run_bind, Sem.run_pure, Result.andThen_ok]
      exact this
    · exact hk.elim
  · exact hk.elim
end
end Go.Lf

/-
  LIFT, part G: operations that write, make memory or call; a region's formula and what it stands for.
-/
namespace Go.Lf

inductive Cls where
  | pure | load | eff

def cls (P : Program) (o : Oper) : Cls :=
  match o.op with
  | .load _ _ => .load
  | .binOp op t x y _ => match binCls P op t x y with | .no => .eff | _ => .pure
  | .convert s d _ => match P.underlying s with
    | some (.int _) => (match P.underlying d with | some (.int _) => .pure | _ => .eff)
    | some .string => (match P.underlying d with | some .string => .pure | _ => .eff)
    | _ => .eff
  | .call c => match c.callee with
    | .builtin .min => (match c.argTypes[0]? with
      | some t => (match P.underlying t with | some (.float _) => .eff | _ => .pure)
      | none => .pure)
    | .builtin .max => (match c.argTypes[0]? with
      | some t => (match P.underlying t with | some (.float _) => .eff | _ => .pure)
      | none => .pure)
    | .builtin .cap => .pure
    | .builtin .len => (match c.argTypes[0]? with
      | some t => (match P.underlying t with | some (.map _ _) => .eff | _ => .pure)
      | none => .eff)
    | _ => .eff
  | .move _ | .assign _ | .pick .. | .build .. | .nilCheck _ | .unOp .. | .makeInterface .. | .makeFunc .. | .fieldAddr .. | .field .. | .indexAddr .. | .index .. | .slice .. | .extract .. => .pure
  | _ => .eff

def RunU (A : Amb) (P : Program) (m : Sem Unit) (h : Heap) (K : Heap → Prop) : Prop := ∀ n, ∃ h' n', m.run P (A.at h n) = .ok () (A.at h' n') ∧ K h'

def argsOf (e : Env) (l : Array Operand) : Array Value := (l.toList.map (ρof e)).toArray

def callK (A : Amb) (P : Program) (o : Oper) (c : Call) (e : Env) (h : Heap) (K : Value → Heap → Prop) : Prop :=
  match c.callee with
  | .value (.func f) => known e c.args.toList (CalcK P (callFunc f (argsOf e c.args)) fun x => match x with
    | .enter f' args' => HCalls A P f' args' h fun v h' => decT P o.type v fun v => K v h'
    | _ => False)
  | .value x => rd e x fun fv => known e c.args.toList (CallV A P fv (argsOf e c.args) h fun v h' => decT P o.type v fun v => K v h')
  | .builtin b => known e c.args.toList (match b with
    | .append => RunK A P (Builtin.append_ c.argTypes o.type (argsOf e c.args)) h fun v h' => decT P o.type v fun v => K v h'
    | .copy => RunK A P (Builtin.copy_ c.argTypes o.type (argsOf e c.args)) h fun v h' => decT P o.type v fun v => K v h'
    | .delete => RunK A P (Builtin.delete_ c.argTypes o.type (argsOf e c.args)) h fun v h' => decT P o.type v fun v => K v h'
    | .clear => RunK A P (Builtin.clear_ c.argTypes o.type (argsOf e c.args)) h fun v h' => decT P o.type v fun v => K v h'
    | .len => RunK A P (Builtin.len_ c.argTypes o.type (argsOf e c.args)) h fun v h' => decT P o.type v fun v => K v h'
    | .real => RunK A P (Builtin.real_ c.argTypes o.type (argsOf e c.args)) h fun v h' => decT P o.type v fun v => K v h'
    | .imag => RunK A P (Builtin.imag_ c.argTypes o.type (argsOf e c.args)) h fun v h' => decT P o.type v fun v => K v h'
    | .complex => RunK A P (Builtin.complex_ c.argTypes o.type (argsOf e c.args)) h fun v h' => decT P o.type v fun v => K v h'
    | .min => RunK A P (Builtin.min_ c.argTypes o.type (argsOf e c.args)) h fun v h' => decT P o.type v fun v => K v h'
    | .max => RunK A P (Builtin.max_ c.argTypes o.type (argsOf e c.args)) h fun v h' => decT P o.type v fun v => K v h'
    | _ => False)
  | _ => False

def storeAllK (a : Addr) : Heap → Nat → List Value → (Heap → Prop) → Prop
  | h, _, [], K => K h
  | h, i, v :: vs, K => OneK (oneB v) (Store h (a.add i) v fun h' => storeAllK a h' (i + 1) vs K)

def storeK (P : Program) (t : TypeId) (av v : Value) (h : Heap) (K : Heap → Prop) : Prop :=
  match av with
  | .pointer p => At p fun a => match P.info? t with
    | some i => cellsK P t v fun cs => match Nat.beq cs.size i.size with
      | true => storeAllK a h 0 cs.toList K
      | false => False
    | none => False
  | _ => False

def boxK (P : Program) (t : TypeId) (v : Value) (h : Heap) (K : Value → Heap → Prop) : Prop :=
  cellsK P t v fun cs => New h (.cells cs t) fun b h' => K (.pointer (some ⟨b, 0, none⟩)) h'

def rowOf (P : Program) (el : TypeId) (len : Nat) (parts : List (Nat × Array Value)) : Option (Array Value) :=
  match P.info? el with
  | some ei => match ei.zero with
    | some z => match Nat.ble (len * ei.size) (2 ^ 24) with
      | true => fillC (fun i => some (i * ei.size, ei.size)) ((Array.range (len * ei.size)).map (z.cells[· % z.cells.size]!)) parts
      | false => none
    | none => none
  | none => none

def buildSliceK (P : Program) (t : TypeId) (len : Nat) (parts : Array (Nat × Operand)) (e : Env) (h : Heap) (K : Value → Heap → Prop) : Prop :=
  match P.underlying t with
  | some (.slice el) => partsK P t e parts.toList fun l => match rowOf P el len l with
    | some cells => New h (.cells cells el) fun b h' => K (.slice (some ⟨b, 0, none⟩) len len) h'
    | none => False
  | _ => False

/-- the type of what is taken out of an operation's result -/
def hintAt (ops : List Oper) (d : Option Tmp) (j : Nat) : Option TypeId :=
  match d with
  | none => none
  | some t => match ops with
    | [] => none
    | o :: r => match o.op with
      | .extract (.tmp t') j' => (match Nat.beq t' t with | true => (match Nat.beq j' j with | true => some o.type | false => hintAt r (some t) j) | false => hintAt r (some t) j)
      | _ => hintAt r (some t) j
def decH (P : Program) (t : Option TypeId) (v : Value) (K : Value → Prop) : Prop :=
  match t with
  | none => K v
  | some t => decT P t v K
theorem decH_sound {P : Program} {t : Option TypeId} {v : Value} {K : Value → Prop} (h : decH P t v K) : K v := by
  cases t with
  | none => exact h
  | some t => exact decT_sound h

def effK (A : Amb) (P : Program) (ops : Array Oper) (o : Oper) (e : Env) (h : Heap) (K : Value → Heap → Prop) : Prop :=
  match o.op with
  | .call c => callK A P o c e h K
  | .makeSlice t l c => rd e l fun l => rd e c fun c => RunK A P (Instr.makeSlice t l c) h fun v h' => decT P o.type v fun v => K v h'
  | .lookup t x i ok => rd e x fun x => rd e i fun i => RunK A P (Instr.lookup t x i ok) h fun v h' => decT P o.type v fun v => K v h'
  | .mapUpdate t m k x => rd e m fun m => rd e k fun k => rd e x fun x => RunU A P (Instr.mapUpdate t m k x) h fun h' => K undef h'
  | .mapEntry t m k => rd e m fun m => rd e k fun k => RunK A P (Instr.mapEntry t m k) h fun v h' => decT P o.type v fun v => K v h'
  | .entryStore t m s x => rd e m fun m => rd e s fun s => rd e x fun x => RunU A P (Instr.entryStore t m s x) h fun h' => K undef h'
  | .convert s d x => rd e x fun x => RunK A P (convert s d x) h fun v h' => decT P o.type v fun v => K v h'
  | .binOp op t x y _ => rd e x fun v => rd e y fun u => RunK A P (do eqGuard op t x y v u; binOp op t v u) h fun v h' => decT P o.type v fun v => K v h'
  | .typeAssert x t u ok => rd e x fun x => RunK A P (Instr.typeAssert x t u ok) h fun v h' => decT P o.type v fun v => K v h'
  | .store t x y => rd e x fun av => rd e y fun v => storeK P t av v h fun h' => K undef h'
  | .box t x => rd e x fun v => boxK P t v h K
  | .buildSlice t len parts => buildSliceK P t len parts e h K
  | .range t x => rd e x fun x => RunK A P (Instr.range t x) h fun v h' => ∃ b : Nat, v = .pointer (some ⟨b, 0, none⟩) ∧ K (.pointer (some ⟨b, 0, none⟩)) h'
  | .next x s => rd e x fun x => RunK A P (Instr.next x s o.type) h fun v h' => (v = .tuple #[.bool false] ∧ K (.tuple #[.bool false]) h') ∨ (∃ k u : Value, v = .tuple #[.bool true, k, u] ∧ decH P (hintAt ops.toList o.dst 1) k fun k => decH P (hintAt ops.toList o.dst 2) u fun u => K (.tuple #[.bool true, k, u]) h')
  | .entry x => rd e x fun x => RunK A P (Instr.entry x) h fun v h' => ∃ k u : Value, v = .tuple #[k, u] ∧ decH P (hintAt ops.toList o.dst 0) k fun k => decH P (hintAt ops.toList o.dst 1) u fun u => K (.tuple #[k, u]) h'
  | .alloc .. | .makeMap .. => known e o.op.operands.toList (Sem.vc P (execOp (ρof e) o) h fun x h' => match x with
    | .value v => K v h'
    | .skip => K undef h'
    | _ => False)
  | _ => False

theorem argsOf_eq {N : Nat} {a : Act} {e : Env} (_H : Fits N a e) {l : Array Operand} (h : ∀ x ∈ l.toList, ρof e x = a.eval x) : argsOf e l = l.map a.eval := by
  unfold argsOf
  rw [List.map_congr_left h]
  apply Array.toList_inj.1
  rw [Array.toList_map]

section
variable {P : Program} {A : Amb}

theorem out_run {o : Oper} {ρ : Operand → Value} {s : Sem Value} {h : Heap} {K : Value → Heap → Prop} (he : execOp ρ o = do pure (.value (← s)))
    (hk : RunK A P s h fun v h' => decT P o.type v fun v => K v h') : ∀ n, EV P o ρ (A.at h n) fun v w' => ∃ h' n', w' = A.at h' n' ∧ K v h' := by
  intro n
  obtain ⟨v, h', n', hr, hd⟩ := hk n
  unfold EV
  rw [he, run_v hr]
  exact ⟨h', n', rfl, decT_sound hd⟩

theorem out_runW {o : Oper} {ρ : Operand → Value} {s : Sem Value} {h : Heap} {K Q : Value → Heap → Prop} (he : execOp ρ o = do pure (.value (← s)))
    (hk : RunK A P s h Q) (hq : ∀ v h', Q v h' → K v h') : ∀ n, EV P o ρ (A.at h n) fun v w' => ∃ h' n', w' = A.at h' n' ∧ K v h' := by
  intro n
  obtain ⟨v, h', n', hr, hd⟩ := hk n
  unfold EV
  rw [he, run_v hr]
  exact ⟨h', n', rfl, hq _ _ hd⟩

theorem out_runU {o : Oper} {ρ : Operand → Value} {s : Sem Unit} {h : Heap} {K : Value → Heap → Prop} (he : execOp ρ o = do s; pure .skip)
    (hk : RunU A P s h fun h' => K undef h') : ∀ n, EV P o ρ (A.at h n) fun v w' => ∃ h' n', w' = A.at h' n' ∧ K v h' := by
  intro n
  obtain ⟨h', n', hr, hd⟩ := hk n
  unfold EV
  rw [he, run_u hr]
  exact ⟨h', n', rfl, hd⟩

theorem call_sound {N : Nat} {a : Act} {e : Env} (H : Fits N a e) {o : Oper} {c : Call} (ho : o.op = .call c) {h : Heap} {K : Value → Heap → Prop} (hk : callK A P o c e h K) :
    ∀ n, EV P o a.eval (A.at h n) fun v w' => ∃ h' n', w' = A.at h' n' ∧ K v h' := by
  have hcv : ∀ {fv : Value} {R : Value → Heap → Prop} {x : Operand}, c.callee = .value x → a.eval x = fv → CallV A P fv (c.args.map a.eval) h R →
      ∀ n, EV P o a.eval (A.at h n) fun v w' => ∃ h' n', w' = A.at h' n' ∧ R v h' := by
    intro fv R x hc hx hcall n
    have := hcall n
    unfold EV
    have he : execOp a.eval o = (do let d ← Deferred.ofValue fv (c.args.map a.eval); invoke d.target d.args : Sem Next) := by
      simp only [execOp, ho, resolve, hc, hx]
    rw [he]
    exact this
  unfold callK at hk
  split at hk
  · rename_i f hc
    obtain ⟨h1, hk⟩ := known_sound H hk
    rw [argsOf_eq H h1] at hk
    obtain ⟨x, hx, hk⟩ := calcK_sound hk
    split at hk
    · rename_i f' args'
      intro n
      have he : (execOp a.eval o).run P (A.at h n) = .ok (.enter f' args') (A.at h n) := by
        simp only [execOp, ho, resolve, hc, Act.eval, Deferred.ofValue]
        simp only [Sem.run_bind, Sem.run_pure, Result.andThen_ok, invoke]
        have := hx (A.at h n)
        simpa using this
      unfold EV
      rw [he]
      refine Calls.mono (hk n) ?_
      rintro e' w' ⟨v, rfl, h', n', rfl, hd⟩
      exact ⟨v, rfl, h', n', rfl, decT_sound hd⟩
    · exact hk.elim
  · rename_i x hc
    have hk := rd_sound H hk
    obtain ⟨h1, hk⟩ := known_sound H hk
    rw [argsOf_eq H h1] at hk
    intro n
    refine EV.mono (hcv hc rfl hk n) ?_
    rintro v w' ⟨h', n', rfl, hd⟩
    exact ⟨h', n', rfl, decT_sound hd⟩
  · rename_i b hc
    obtain ⟨h1, hk⟩ := known_sound H hk
    rw [argsOf_eq H h1] at hk
    split at hk
    · exact out_run (by simp only [execOp, ho, resolve, hc]; rfl) hk
    · exact out_run (by simp only [execOp, ho, resolve, hc]; rfl) hk
    · exact out_run (by simp only [execOp, ho, resolve, hc]; rfl) hk
    · exact out_run (by simp only [execOp, ho, resolve, hc]; rfl) hk
    · exact out_run (by simp only [execOp, ho, resolve, hc]; rfl) hk
    · exact out_run (by simp only [execOp, ho, resolve, hc]; rfl) hk
    · exact out_run (by simp only [execOp, ho, resolve, hc]; rfl) hk
    · exact out_run (by simp only [execOp, ho, resolve, hc]; rfl) hk
    · exact out_run (by simp only [execOp, ho, resolve, hc]; rfl) hk
    · exact out_run (by simp only [execOp, ho, resolve, hc]; rfl) hk
    · exact hk.elim
  · exact hk.elim

theorem run_storeAll {A : Amb} {a : Addr} : ∀ {l : List Value} {h : Heap} {i : Nat} {K : Heap → Prop}, storeAllK a h i l K → ∀ n, ∃ h', (storeCells a l i).run P (A.at h n) = .ok () (A.at h' n) ∧ K h'
  | [], h, i, K, hk, n => ⟨h, rfl, hk⟩
  | v :: vs, h, i, K, hk, n => by
    unfold storeAllK at hk
    cases ho : oneB v with
    | false => rw [ho] at hk; exact hk.elim
    | true =>
      rw [ho] at hk
      obtain ⟨⟨u, hu⟩, hf, hk2⟩ := hk
      obtain ⟨h', hr, hk3⟩ := run_storeAll hk2 n
      refine ⟨h', ?_, hk3⟩
      have h1 := run_store1 (A := A) (P := P) (m := .plain) (f := (.pure () : Sem Unit)) (n := n) ho hu hf
      simp only [storeCells, Sem.run_bind]
      have h2 : (store (a.add i) v).run P (A.at h n) = .ok () (A.at (hset h (a.add i) v) n) := h1
      rw [h2]
      exact hr

theorem store_sound {A : Amb} {t : TypeId} {av v : Value} {h : Heap} {K : Heap → Prop} (hk : storeK P t av v h K) : RunU A P (Instr.storeAt t av v) h K := by
  intro n
  unfold storeK at hk
  split at hk
  · rename_i p
    obtain ⟨a, rfl, hk1⟩ := At.mk hk
    split at hk1
    · rename_i ei hi
      have hk2 := cellsK_sound hk1
      split at hk2
      · rename_i hb
        have hb := Nat.eq_of_beq_eq_true hb
        obtain ⟨h', hr, hk3⟩ := run_storeAll (P := P) (A := A) hk2 n
        refine ⟨h', n, ?_, hk3⟩
        simp [Instr.storeAt, Instr.sureAddr, storeVar, run_sizeOf hi, hb, hr]
      · exact hk2.elim
    · exact hk1.elim
  · exact hk.elim

theorem box_run {A : Amb} {t : TypeId} {v : Value} {h : Heap} {n : Nat} : (Instr.box t v).run P (A.at h n) = .ok (.pointer (some ⟨h.size, 0, none⟩)) (A.at (h.push (.cells v.cells t)) n) := rfl

theorem row_run {A : Amb} {t el : TypeId} (ht : P.underlying t = some (.slice el)) {len : Nat} {parts : Array (Nat × Value)} {cells : Array Value} {h : Heap} {n : Nat}
    (hr : rowOf P el len (parts.toList.map fun p => (p.1, p.2.cells)) = some cells) :
    (Instr.buildSlice t len parts).run P (A.at h n) = .ok (.slice (some ⟨h.size, 0, none⟩) len len) (A.at (h.push (.cells cells el)) n) := by
  unfold rowOf at hr
  split at hr
  · rename_i ei hei
    split at hr
    · rename_i z hz
      split at hr
      · rename_i hle
        have hle := Nat.le_of_ble_eq_true hle
        rw [← fill_eq] at hr
        have hn : ¬ (len * ei.size > 2 ^ 24) := by omega
        unfold Instr.buildSlice
        simp only [Sem.run_bind, run_und ht, Result.andThen_ok, run_sizeOf hei, if_neg hn]
        by_cases h0 : len * ei.size = 0
        · have hr0 : Instr.fill (fun i => some (i * ei.size, ei.size)) ((Array.range (len * ei.size)).map ((#[] : Array Value)[· % (#[] : Array Value).size]!)) parts.toList = some cells := by
            rw [← hr]; congr 1; simp [h0]
          rw [if_pos h0]
          simp only [Sem.run_bind, Sem.run_pure, Result.andThen_ok, hr0]
          rfl
        · rw [if_neg h0]
          have hzv : (zeroValue el).run P (A.at h n) = .ok z (A.at h n) := by simp [zeroValue, run_info hei, hz]
          simp only [Sem.run_bind, hzv, Sem.run_pure, Result.andThen_ok, hr]
          rfl
      · cases hr
    · cases hr
  · cases hr

theorem eff_sound {N : Nat} {a : Act} {e : Env} (H : Fits N a e) {ops : Array Oper} {o : Oper} {h : Heap} {K : Value → Heap → Prop} (hk : effK A P ops o e h K) :
    ∀ n, EV P o a.eval (A.at h n) fun v w' => ∃ h' n', w' = A.at h' n' ∧ K v h' := by
  have hvc : notSelect o → known e o.op.operands.toList (Sem.vc P (execOp (ρof e) o) h fun x h' => match x with
      | .value v => K v h'
      | .skip => K undef h'
      | _ => False) → ∀ n, EV P o a.eval (A.at h n) fun v w' => ∃ h' n', w' = A.at h' n' ∧ K v h' := by
    intro hs hk n
    obtain ⟨h1, hk⟩ := known_sound H hk
    obtain ⟨x, h', n', hr, hk⟩ := vc_sound (A := A) hk n
    rw [execOp_congr o hs (fun x hx => h1 x (by simpa using hx))] at hr
    unfold EV
    rw [hr]
    split at hk
    · exact ⟨h', n', rfl, hk⟩
    · exact ⟨h', n', rfl, hk⟩
    · exact hk.elim
  unfold effK at hk
  split at hk
  · rename_i c ho
    exact call_sound H ho hk
  · rename_i t l c ho
    exact out_run (by simp only [execOp, ho]) (rd_sound H (rd_sound H hk))
  · rename_i t x i ok ho
    exact out_run (by simp only [execOp, ho]) (rd_sound H (rd_sound H hk))
  · rename_i t m k x ho
    exact out_runU (by simp only [execOp, ho]) (rd_sound H (rd_sound H (rd_sound H hk)))
  · rename_i t m k ho
    exact out_run (by simp only [execOp, ho]) (rd_sound H (rd_sound H hk))
  · rename_i t m s x ho
    exact out_runU (by simp only [execOp, ho]) (rd_sound H (rd_sound H (rd_sound H hk)))
  · rename_i s d x ho
    exact out_run (by simp only [execOp, ho]) (rd_sound H hk)
  · rename_i op t x y _ ho
    exact out_run (by simp only [execOp, ho]) (rd_sound H (rd_sound H hk))
  · rename_i x t u ok ho
    exact out_run (by simp only [execOp, ho]) (rd_sound H hk)
  · rename_i t x y ho
    exact out_runU (by simp only [execOp, ho]) (store_sound (rd_sound H (rd_sound H hk)))
  · rename_i t x ho
    intro n
    have hk2 := cellsK_sound (rd_sound H hk)
    unfold EV
    simp only [execOp, ho]
    rw [run_v box_run]
    exact ⟨_, _, rfl, hk2⟩
  · rename_i t len parts ho
    intro n
    unfold buildSliceK at hk
    split at hk
    · rename_i el ht
      have hk2 := partsK_sound H hk
      split at hk2
      · rename_i cells hc
        unfold EV
        simp only [execOp, ho]
        rw [run_v (row_run (A := A) (n := n) (h := h) ht (cells := cells) (by rw [← hc]; congr 1; simp))]
        exact ⟨_, _, rfl, hk2⟩
      · exact hk2.elim
    · exact hk.elim
  · rename_i t x ho
    refine out_runW (by simp only [execOp, ho]) (rd_sound H hk) ?_
    rintro v h' ⟨b, rfl, h⟩
    exact h
  · rename_i x s ho
    refine out_runW (by simp only [execOp, ho]) (rd_sound H hk) ?_
    rintro v h' (⟨rfl, h⟩ | ⟨k, u, rfl, h⟩)
    · exact h
    · exact decH_sound (decH_sound h)
  · rename_i x ho
    refine out_runW (by simp only [execOp, ho]) (rd_sound H hk) ?_
    rintro v h' ⟨k, u, rfl, h⟩
    exact decH_sound (decH_sound h)
  · rename_i ho; exact hvc (fun cs b hc => by rw [ho] at hc; cases hc) hk
  · rename_i ho; exact hvc (fun cs b hc => by rw [ho] at hc; cases hc) hk
  · exact hk.elim
end

/-! ### a region -/
def obl : List Prop → Prop → Prop
  | [], K => K
  | p :: l, K => p ∧ obl l K

theorem obl_sound : ∀ {l : List Prop} {K : Prop}, obl l K → (∀ p ∈ l, p) ∧ K
  | [], _, h => ⟨fun _ hp => (by cases hp), h⟩
  | p :: l, _, ⟨hp, h⟩ => by
    obtain ⟨h1, h2⟩ := obl_sound h
    refine ⟨fun q hq => ?_, h2⟩
    rcases List.mem_cons.1 hq with rfl | hq
    · exact hp
    · exact h1 q hq

def oblPre (ord : Nat → Nat → Bool) (fl : Bool) (i : Nat) (st : Heap → Prop) (pres : List (Nat × Heap)) : List Prop :=
  match fl with | true => (pres.filter fun p => un ord i p.1).map fun p => st p.2 | false => []
def oblPend (ord : Nat → Nat → Bool) (fl : Bool) (i : Nat) (h : Heap) (pend : List (Nat × (Heap → Prop))) : List Prop :=
  match fl with | true => (pend.filter fun p => un ord i p.1).map fun p => p.2 h | false => []

def guardK (ops : Array Oper) (o : Oper) (e : Env) (X Y : Env → Prop) : Prop :=
  match o.guard with
  | none => X e
  | some (j, want) => match ops[j]? with
    | some oj => match oj.dst with
      | some d => match e.get d with
        | some (.bool g) => match want with
          | true => PIf g (X (e.set d (.bool true))) (Y (e.set d (.bool false)))
          | false => PIf g (Y (e.set d (.bool true))) (X (e.set d (.bool false)))
        | some _ => Y e
        | none => False
      | none => False
    | none => False

def semOps (A : Amb) (P : Program) (N : Nat) (ops : Array Oper) (ord : Nat → Nat → Bool) (fl : Bool) :
    List Oper → Nat → Env → Heap → List (Nat × (Heap → Prop)) → List (Nat × Heap) → (Env → Heap → Prop) → Prop
  | [], _, e, h, _, _, k => k e h
  | o :: rest, i, e, h, pend, pres, k =>
    match dstOk N o.dst with
    | false => False
    | true => guardK ops o e
      (fun e => match cls P o with
        | .pure => pureK P o e fun v => semOps A P N ops ord fl rest (i + 1) (e.put o.dst v) h pend pres k
        | .load => loadK P o e h fun v st => obl (oblPre ord fl i st pres) (semOps A P N ops ord fl rest (i + 1) (e.put o.dst v) h (match fl with | true => (i, st) :: pend | false => pend) pres k)
        | .eff => effK A P ops o e h fun v h' => obl (oblPend ord fl i h' pend) (semOps A P N ops ord fl rest (i + 1) (e.put o.dst v) h' pend (match fl with | true => (i, h) :: pres | false => pres) k))
      (fun e => semOps A P N ops ord fl rest (i + 1) (e.put o.dst undef) h pend pres k)

theorem guard_sound {ops : Array Oper} {o : Oper} {N : Nat} {a : Act} {e : Env} (H : Fits N a e) {X Y : Env → Prop} (h : guardK ops o e X Y) :
    (Region.wanted o (yielded ops a.tmps) = true ∧ ∃ e', Fits N a e' ∧ X e') ∨ (Region.wanted o (yielded ops a.tmps) = false ∧ ∃ e', Fits N a e' ∧ Y e') := by
  unfold guardK at h
  split at h
  · rename_i hg
    exact .inl ⟨by simp [Region.wanted, hg], e, H, h⟩
  · rename_i j want hg
    split at h
    · rename_i oj hoj
      split at h
      · rename_i d hd
        split at h
        · rename_i g hgv
          have hv := H.get d _ hgv
          have hy : yielded ops a.tmps j = some g := by simp [yielded, hoj, hd, hv]
          have hkn : Fits N a (e.set d (.bool g)) := H.know hv
          split at h
          · obtain ⟨h1, h2⟩ := PIf.mk h
            cases g with
            | true => exact .inl ⟨by simp [Region.wanted, hg, hy], _, hkn, h1 rfl⟩
            | false => exact .inr ⟨by simp [Region.wanted, hg, hy], _, hkn, h2 rfl⟩
          · obtain ⟨h1, h2⟩ := PIf.mk h
            cases g with
            | true => exact .inr ⟨by simp [Region.wanted, hg, hy], _, hkn, h1 rfl⟩
            | false => exact .inl ⟨by simp [Region.wanted, hg, hy], _, hkn, h2 rfl⟩
        · rename_i v hne hgv
          have hv := H.get d _ hgv
          refine .inr ⟨?_, e, H, h⟩
          have hy : yielded ops a.tmps j = none := by
            simp only [yielded, hoj, hd, hv, Option.bind_some]
            cases v <;> first | rfl | exact absurd rfl (hne _)
          simp [Region.wanted, hg, hy]
        · exact h.elim
      · exact h.elim
    · exact h.elim

/-- all but these slots are as they were -/
structure Keep (W : List Nat) (a a' : Act) : Prop where
  get : ∀ t, t ∉ W → a'.tmps[t]? = a.tmps[t]?
  ds : a'.defers = a.defers

theorem Keep.refl (W : List Nat) (a : Act) : Keep W a a := ⟨fun _ _ => rfl, rfl⟩
theorem Keep.put {W : List Nat} {a a' : Act} (h : Keep W a a') {d : Option Tmp} {v : Value} (hd : ∀ t, d = some t → t ∈ W) : Keep W a (a'.put d v) := by
  cases d with
  | none => exact h
  | some d =>
    refine ⟨fun t ht => ?_, h.ds⟩
    have : d ≠ t := fun e => ht (e ▸ hd d rfl)
    simp only [Act.put]
    rw [Array.getElem?_setIfInBounds_ne this]
    exact h.get t ht

def dstsOf (l : List Oper) : List Nat := l.filterMap (·.dst)

theorem dst_mem {l : List Oper} {o : Oper} (h : o ∈ l) {d : Nat} (hd : o.dst = some d) : d ∈ dstsOf l := List.mem_filterMap.2 ⟨o, h, hd⟩

section
variable {P : Program} {A : Amb} {r : Option Nat} {m N : Nat} {ops : Array Oper} {ord : Nat → Nat → Bool}

theorem notSelect_cls {o : Oper} (h : cls P o ≠ .eff) : notSelect o := fun cs b hc => h (by simp [cls, hc])
theorem notDefer_cls {o : Oper} (h : cls P o ≠ .eff) : notDefer o = true := by
  unfold notDefer
  split
  · rename_i hc; exact absurd (by simp [cls, hc]) h
  · rename_i hc; exact absurd (by simp [cls, hc]) h
  · rfl
theorem notDefer_eff {ops : Array Oper} {o : Oper} {e : Env} {h : Heap} {K : Value → Heap → Prop} (hk : effK A P ops o e h K) : notDefer o = true := by
  unfold notDefer
  split
  · rename_i hc; simp [effK, hc] at hk
  · rename_i hc; simp [effK, hc] at hk
  · rfl

theorem semOps_list {k : Env → Heap → Prop} {Q : Exit → Act → World → Prop} : ∀ (l : List Oper) (i : Nat) (e : Env) (h : Heap) (a : Act) (n : Nat), semOps A P N ops ord false l i e h [] [] k → Fits N a e →
    (∀ a' e' h' n', Fits N a' e' → Keep (dstsOf l) a a' → k e' h' → Q .normal a' (A.at h' n')) → wpListIn (Fw r) m P ops Q l a (A.at h n)
  | [], _, e, h, a, n, hk, H, hQ => hQ a e h n H (Keep.refl _ _) hk
  | o :: rest, i, e, h, a, n, hk, H, hQ => by
    unfold semOps at hk
    split at hk
    · exact hk.elim
    · rename_i hd
      have next : ∀ (v : Value) (e' : Env) (h' : Heap) (n' : Nat), Fits N a e' → semOps A P N ops ord false rest (i + 1) (e'.put o.dst v) h' [] [] k → wpListIn (Fw r) m P ops Q rest (a.put o.dst v) (A.at h' n') := by
        intro v e' h' n' H' hs
        refine semOps_list rest (i + 1) _ h' _ n' hs (H'.put hd) ?_
        intro a2 e2 h2 n2 H2 hkp hk2
        refine hQ a2 e2 h2 n2 H2 ⟨fun t ht => ?_, hkp.ds.trans ?_⟩ hk2
        · have h1 : t ∉ dstsOf rest := fun hm => ht (by simp only [dstsOf, List.filterMap_cons]; split <;> simp_all [dstsOf])
          rw [hkp.get t h1]
          exact (Keep.put (W := dstsOf (o :: rest)) (Keep.refl _ a) (fun t ht => dst_mem List.mem_cons_self ht)).get t ht
        · cases o.dst <;> rfl
      unfold wpListIn
      rcases guard_sound H hk with ⟨hw, e', H', hk⟩ | ⟨hw, e', H', hk⟩
      · rw [if_pos hw]
        split at hk
        · rename_i hc
          have hs : notSelect o := notSelect_cls (P := P) (by rw [hc]; intro x; cases x)
          obtain ⟨v, hv, hk⟩ := pure_sound H' hs hk
          refine EV.wpIn (notDefer_cls (P := P) (by rw [hc]; intro x; cases x)) ?_
          unfold EV
          rw [hv]
          exact next v e' h n H' hk
        · rename_i hc
          obtain ⟨v, st, hv, hst, hk⟩ := load_sound (A := A) H' hk
          refine EV.wpIn (notDefer_cls (P := P) (by rw [hc]; intro x; cases x)) ?_
          unfold EV
          rw [hv h hst n]
          exact next v e' h n H' (obl_sound hk).2
        · refine EV.wpIn (notDefer_eff hk) ((eff_sound H' hk n).mono ?_)
          rintro v w' ⟨h', n', rfl, hk⟩
          exact next v e' h' n' H' (obl_sound hk).2
      · rw [if_neg (by rw [hw]; simp)]
        exact ⟨fun _ _ => trivial, next undef e' h n H' hk⟩

def qbOf (P : Program) (o : Oper) : Bool := match cls P o with | .eff => false | _ => true

theorem semOps_FA {k : Env → Heap → Prop} {a0 : Act} {Q : Act → Heap → Prop} (hQ : ∀ a' e' h', Fits N a' e' → Keep (dstsOf ops.toList) a0 a' → k e' h' → Q a' h') :
    ∀ (l : List Oper) (i : Nat) (e : Env) (h : Heap) (a : Act) (pend : List (Nat × (Heap → Prop))) (pres : List (Nat × Heap)) (pend' : List (Nat × (Heap → Prop))),
      (∀ j, l[j]? = ops[i + j]?) → semOps A P N ops ord true l i e h pend pres k → Fits N a e → Keep (dstsOf ops.toList) a0 a →
      (∀ p' ∈ pend', (∀ h, p'.2 h) ∨ ∃ p ∈ pend, p.1 = p'.1 ∧ ∀ h, p.2 h → p'.2 h) → FA P A ops (qbOf P) ord Q (List.range' i l.length) a h pend' pres
  | [], _, e, h, a, pend, pres, pend', _, hk, H, hkp, _ => hQ a e h H hkp hk
  | o :: rest, i, e, h, a, pend, pres, pend', hl, hk, H, hkp, hpp => by
    have ho : ops[i]? = some o := by simpa using (hl 0).symm
    have hl' : ∀ j, rest[j]? = ops[i + 1 + j]? := fun j => by have := hl (j + 1); simpa [Nat.add_assoc, Nat.add_comm 1 j] using this
    have hmem : o ∈ ops.toList := by rw [Array.mem_toList_iff]; exact Array.mem_of_getElem? ho
    unfold semOps at hk
    split at hk
    · exact hk.elim
    · rename_i hd
      have hkp' : ∀ v, Keep (dstsOf ops.toList) a0 (a.put o.dst v) := fun v => hkp.put (fun t ht => dst_mem hmem ht)
      rw [List.length_cons, List.range'_succ]
      unfold FA
      rw [ho]
      simp only
      rcases guard_sound H hk with ⟨hw, e', H', hk⟩ | ⟨hw, e', H', hk⟩
      · rw [if_pos hw]
        split at hk
        · rename_i hc
          have hq : qbOf P o = true := by simp [qbOf, hc]
          rw [if_pos hq]
          have hs : notSelect o := notSelect_cls (P := P) (by rw [hc]; intro x; cases x)
          obtain ⟨v, hv, hk⟩ := pure_sound H' hs hk
          refine ⟨v, fun n => hv _, fun _ _ _ n => hv _, ?_⟩
          refine semOps_FA hQ rest (i + 1) _ h _ pend pres _ hl' hk (H'.put hd) (hkp' v) ?_
          intro p' hp'
          rcases List.mem_cons.1 hp' with rfl | hp'
          · exact .inl fun h n => hv _
          · exact hpp p' hp'
        · rename_i hc
          have hq : qbOf P o = true := by simp [qbOf, hc]
          rw [if_pos hq]
          obtain ⟨v, st, hv, hst, hk⟩ := load_sound (A := A) H' hk
          obtain ⟨hob, hk⟩ := obl_sound hk
          refine ⟨v, hv h hst, fun p hp hu => hv p.2 (hob _ (List.mem_map.2 ⟨p, List.mem_filter.2 ⟨hp, hu⟩, rfl⟩)), ?_⟩
          refine semOps_FA hQ rest (i + 1) _ h _ ((i, st) :: pend) pres _ hl' hk (H'.put hd) (hkp' v) ?_
          intro p' hp'
          rcases List.mem_cons.1 hp' with rfl | hp'
          · exact .inr ⟨(i, st), List.mem_cons_self, rfl, hv⟩
          · rcases hpp p' hp' with h1 | ⟨p, hp, h1, h2⟩
            · exact .inl h1
            · exact .inr ⟨p, List.mem_cons_of_mem _ hp, h1, h2⟩
        · rename_i hc
          have hq : ¬ qbOf P o = true := by simp [qbOf, hc]
          rw [if_neg hq]
          intro n
          refine (eff_sound H' hk n).mono ?_
          rintro v w' ⟨h', n', rfl, hk⟩
          obtain ⟨hob, hk⟩ := obl_sound hk
          refine ⟨h', n', rfl, ?_, ?_⟩
          · intro p' hp' hu
            rcases hpp p' hp' with h1 | ⟨p, hp, h1, h2⟩
            · exact h1 h'
            · exact h2 h' (hob _ (List.mem_map.2 ⟨p, List.mem_filter.2 ⟨hp, by rw [h1]; exact hu⟩, rfl⟩))
          · exact semOps_FA hQ rest (i + 1) _ h' _ pend _ _ hl' hk (H'.put hd) (hkp' v) hpp
      · rw [if_neg (by rw [hw]; simp)]
        exact semOps_FA hQ rest (i + 1) _ h _ pend pres _ hl' hk (H'.put hd) (hkp' undef) hpp

/-- a region's formula -/
def semReg (A : Amb) (P : Program) (N : Nat) (ops : Array Oper) (draw : Bool) (e : Env) (h : Heap) (k : Env → Heap → Prop) : Prop :=
  match draw with
  | false => semOps A P N ops (fun _ _ => false) false ops.toList 0 e h [] [] k
  | true => match floatB ops (qbOf P) (ordOf ops) with
    | true => semOps A P N ops (ordOf ops) true ops.toList 0 e h [] [] k
    | false => False

theorem semReg_sound {id : Nat} {draw : Bool} {e : Env} {h : Heap} {k : Env → Heap → Prop} {a : Act} {n : Nat} {Q : Exit → Act → World → Prop} (hm : P.follows .mixedOrders = true)
    (hk : semReg A P N ops draw e h k) (H : Fits N a e) (hQ : ∀ a' e' h' n', Fits N a' e' → Keep (dstsOf ops.toList) a a' → k e' h' → Q .normal a' (A.at h' n')) :
    (Code.region id ops draw).wpIn (Fw r) m P Q a (A.at h n) := by
  unfold semReg at hk
  cases draw with
  | false => exact wpIn_region_list (semOps_list _ _ _ _ _ _ hk H hQ)
  | true =>
    simp only [] at hk
    split at hk
    · rename_i hfl
      refine wpIn_region_float (qb := qbOf P) (ord := ordOf ops) (Q := fun a' h' => ∃ e', Fits N a' e' ∧ Keep (dstsOf ops.toList) a a' ∧ k e' h') ?_ hm hfl ?_
      · rintro a' h' n' ⟨e', h1, h2, h3⟩
        exact hQ a' e' h' n' h1 h2 h3
      · have := semOps_FA (Q := fun a' h' => ∃ e', Fits N a' e' ∧ Keep (dstsOf ops.toList) a a' ∧ k e' h') (a0 := a) (fun a' e' h' h1 h2 h3 => ⟨e', h1, h2, h3⟩) ops.toList 0 e h a [] [] []
          (fun j => by simp) hk H (Keep.refl _ _) (fun _ hp => by cases hp)
        rw [List.range_eq_range']
        simpa using this
    · exact hk.elim
end
end Go.Lf

