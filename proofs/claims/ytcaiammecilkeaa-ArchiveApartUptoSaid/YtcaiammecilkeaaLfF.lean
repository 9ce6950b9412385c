/-
  LIFT, part F: what a formula stands for: addresses, slices, the whole of an operation that reads no memory; loads.
-/
import Derived.Test.YtcaiammecilkeaaLfE
namespace Go.Lf
section
variable {P : Program}

theorem run_asIntOf (k : IntKind) (n : Int) (w : World) : (asIntOf (.int k n)).run P w = .ok (k, n) w := rfl

theorem idxAddr_sound {t : TypeId} {v i : Value} {K : Value → Prop} (h : idxAddrK P t v i K) : PR P (Instr.indexAt t v i) K := by
  unfold idxAddrK at h
  split at h
  · rename_i el ht
    split at h
    · rename_i p len c k n ei hei
      obtain ⟨a, rfl, ⟨h0, h1⟩, h⟩ := h
      refine ⟨_, fun w => ?_, h⟩
      simp [Instr.indexAt, asIntOf, run_und ht, run_sizeOf hei, h0, h1]
    · exact h.elim
  · rename_i len el ht
    split at h
    · rename_i p k n ei hei
      obtain ⟨a, rfl, h⟩ := At.mk h
      obtain ⟨⟨h0, h1⟩, h⟩ := h
      refine ⟨_, fun w => ?_, h⟩
      simp [Instr.indexAt, asIntOf, run_und ht, run_sizeOf hei, h0, h1, Instr.sureAddr]
    · exact h.elim
  · exact h.elim

theorem index_sound {t : TypeId} {v i : Value} {K : Value → Prop} (h : indexK P t v i K) : PR P (Instr.index t v i) K := by
  unfold indexK at h
  split at h
  · rename_i ht
    split at h
    · rename_i s k n
      obtain ⟨⟨h0, h1⟩, h⟩ := h
      refine ⟨_, fun w => ?_, h⟩
      have hlt : n.toNat < s.size := by omega
      have hs : s[n.toNat]? = some s[n.toNat] := by simp [hlt]
      simp [Instr.index, asIntOf, run_und ht, h0, hs, sAt]
    · exact h.elim
  · exact calcK_sound h
  · exact h.elim

theorem bnd_sound {x : Option Value} {d max : Nat} {K : Nat → Prop} (h : bndK x d max K) :
    (x = none ∧ K d) ∨ ∃ k n, x = some (.int k n) ∧ 0 ≤ n ∧ n ≤ (max : Int) ∧ K n.toNat := by
  unfold bndK at h
  split at h
  · rename_i k n
    obtain ⟨⟨h0, h1⟩, h⟩ := h
    exact .inr ⟨k, n, rfl, h0, h1, h⟩
  · exact .inl ⟨rfl, h⟩
  · exact h.elim

theorem run_sliceBound {k : IntKind} {n : Int} {y : Nat} {code : BoundsCode} (h0 : 0 ≤ n) (h1 : n ≤ (y : Int)) (w : World) :
    (Instr.sliceBound (.int k n) y code).run P w = .ok n.toNat w := by
  simp [Instr.sliceBound, asIntOf, h0, h1]

theorem run_sliceBounds {b : Bool} {len cap : Nat} {lo hi : Option Value} {K : Nat → Nat → Prop}
    (hb : bndK hi len cap fun h => bndK lo 0 h fun l => K l h) : ∃ l h, (∀ w, (Instr.sliceBounds b len cap lo hi none).run P w = .ok (l, h, cap) w) ∧ K l h := by
  obtain ⟨e1, k1⟩ | ⟨k, n, e1, h0, h1, k1⟩ := bnd_sound hb
  · obtain ⟨e2, k2⟩ | ⟨k', n', e2, h0', h1', k2⟩ := bnd_sound k1
    · exact ⟨_, _, fun w => by simp [Instr.sliceBounds, e1, e2], k2⟩
    · exact ⟨_, _, fun w => by simp [Instr.sliceBounds, e1, e2, run_sliceBound h0' h1'], k2⟩
  · obtain ⟨e2, k2⟩ | ⟨k', n', e2, h0', h1', k2⟩ := bnd_sound k1
    · exact ⟨_, _, fun w => by simp [Instr.sliceBounds, e1, e2, run_sliceBound h0 h1], k2⟩
    · exact ⟨_, _, fun w => by simp [Instr.sliceBounds, e1, e2, run_sliceBound h0 h1, run_sliceBound h0' h1'], k2⟩

theorem slice_sound {t : TypeId} {v : Value} {lo hi : Option Value} {K : Value → Prop} (h : sliceK P t v lo hi K) : PR P (Instr.sliceAt t v lo hi none) K := by
  unfold sliceK at h
  split at h
  · rename_i ht
    split at h
    · rename_i s
      obtain ⟨l, hh, hr, h⟩ := run_sliceBounds (P := P) (b := false) h
      refine ⟨_, fun w => ?_, h⟩
      simp [Instr.sliceAt, Instr.slice, run_und ht, hr]
    · exact h.elim
  · rename_i el ht
    split at h
    · rename_i p len cap ei hei
      obtain ⟨l, hh, hr, h⟩ := run_sliceBounds (P := P) (b := true) h
      refine ⟨_, fun w => ?_, h⟩
      simp [Instr.sliceAt, Instr.slice, run_und ht, hr, run_sizeOf hei, slOff]
    · exact h.elim
  · rename_i n el ht
    split at h
    · rename_i p ei hei
      obtain ⟨a, rfl, hk⟩ := At.mk h
      obtain ⟨l, hh, hr, h⟩ := run_sliceBounds (P := P) (b := false) hk
      refine ⟨_, fun w => ?_, h⟩
      simp [Instr.sliceAt, run_und ht, hr, run_sizeOf hei, Instr.sureAddr]
    · exact h.elim
  · exact h.elim

theorem PIf.mk {b : Bool} {X Y : Prop} (h : PIf b X Y) : (b = true → X) ∧ (b = false → Y) := by
  cases b
  · exact ⟨fun h => (by cases h), fun _ => h⟩
  · exact ⟨fun _ => h, fun h => (by cases h)⟩

theorem pick_sound {c : Bool} {a b : Option Value} {va vb : Value} (ha : ∀ v, a = some v → va = v) (hb : ∀ v, b = some v → vb = v) {K : Value → Prop} (h : pickK c a b K) :
    K (if c then va else vb) := by
  unfold pickK at h
  split at h
  · rename_i x y
    rw [ha _ rfl, hb _ rfl]
    cases c <;> exact h
  · rename_i x y _
    rw [ha _ rfl, hb _ rfl]
    cases c <;> exact h
  · rename_i x
    rw [ha _ rfl]
    cases c
    · exact h.elim
    · exact h
  · rename_i y
    rw [hb _ rfl]
    cases c
    · exact h
    · exact h.elim
  · exact h.elim

theorem optK_sound {N : Nat} {a : Act} {e : Env} (H : Fits N a e) {x : Option Operand} {K : Option Value → Prop} (h : optK e x K) : K (x.map a.eval) := by
  cases x with
  | none => exact h
  | some x => exact rd_sound H h

theorem partsK_sound {N : Nat} {a : Act} {e : Env} (H : Fits N a e) {t : TypeId} : ∀ {l : List (Nat × Operand)} {K : List (Nat × Array Value) → Prop}, partsK P t e l K → K (l.map fun p => (p.1, (a.eval p.2).cells))
  | [], K, h => h
  | (i, x) :: r, K, h => by
    unfold partsK at h
    split at h
    · have h2 := cellsK_sound (rd_sound H h)
      have h3 := partsK_sound H h2
      exact h3
    · exact h.elim

theorem placesOf_eq : ∀ (fs : List Field), placesOf P fs = fs.mapM (fun f => (P.info? f.type).map fun i => (f.offset, i.size))
  | [] => rfl
  | f :: r => by
    simp only [placesOf, List.mapM_cons, Option.bind_eq_bind, Option.pure_def, placesOf_eq r]
    cases P.info? f.type with
    | none => rfl
    | some i => simp only [Option.map_some, Option.bind_some]; cases r.mapM (fun f => (P.info? f.type).map fun i => (f.offset, i.size)) <;> rfl

theorem builtC_run {t : TypeId} {parts : Array (Nat × Value)} {cells : Array Value} (h : builtC P t (parts.toList.map fun p => (p.1, p.2.cells)) = some cells) (w : World) :
    (Instr.build t parts).run P w = .ok (.agg cells) w := by
  unfold builtC at h
  split at h
  · rename_i it hit
    split at h
    · rename_i z hz
      split at h
      · rename_i fs hu
        split at h
        · rename_i l hl
          rw [← fill_eq] at h
          rw [placesOf_eq] at hl
          have h' : Instr.fill (fun x => l[x]?) z.cells parts.toList = some cells := by simpa using h
          simp [Instr.build, run_underlying hu, typeInfo, zeroValue, hit, hz, Array.mapM_eq_mapM_toList, run_places w _ _ hl, h']
        · cases h
      · rename_i n el hu
        split at h
        · rename_i ei hie
          rw [← fill_eq] at h
          simp [Instr.build, run_underlying hu, sizeOf, typeInfo, zeroValue, hit, hz, hie, h]
        · cases h
      · cases h
    · cases h
  · cases h

theorem pure_sound {N : Nat} {a : Act} {e : Env} (H : Fits N a e) {o : Oper} {K : Value → Prop} (hs : notSelect o) (h : pureK P o e K) :
    ∃ v, (∀ w, (execOp a.eval o).run P w = .ok (.value v) w) ∧ K v := by
  have lift : ∀ {s : Sem Value}, PR P s K → (execOp a.eval o = do pure (.value (← s))) → ∃ v, (∀ w, (execOp a.eval o).run P w = .ok (.value v) w) ∧ K v := by
    intro s ⟨v, hv, hK⟩ he
    exact ⟨v, fun w => by rw [he]; exact run_v (hv w), hK⟩
  have dflt := default_sound (P := P) H (o := o) (K := K) hs
  unfold pureK at h
  cases ho : o.op
  case nilCheck x =>
    rw [ho] at h
    have h := rd_sound H h
    unfold nilChkK at h
    cases hx : a.eval x <;> rw [hx] at h <;> simp only [] at h
    rename_i p
    obtain ⟨b, rfl, h⟩ := At.mk h
    exact ⟨_, fun w => by simp [execOp, ho, hx], h⟩
  case binOp op t x y t' =>
    rw [ho] at h
    have h := rd_sound H (rd_sound H h)
    refine lift (bin_sound (fun c hc => by subst hc; rfl) (fun c hc => by subst hc; rfl) h) ?_
    simp [execOp, ho]
  case indexAddr t x i =>
    rw [ho] at h
    have h := rd_sound H (rd_sound H h)
    refine lift (idxAddr_sound h) ?_
    simp [execOp, ho]
  case index t x i =>
    rw [ho] at h
    have h := rd_sound H (rd_sound H h)
    refine lift (index_sound h) ?_
    simp [execOp, ho]
  case slice t x lo hi mx =>
    rw [ho] at h
    cases mx with
    | some m => exact h.elim
    | none =>
      have h := optK_sound H (optK_sound H (rd_sound H h))
      refine lift (slice_sound h) ?_
      simp [execOp, ho]
  case build t parts =>
    rw [ho] at h
    have h := partsK_sound H h
    split at h
    · rename_i cells hc
      refine ⟨_, fun w => ?_, h⟩
      simp only [execOp, ho]
      refine run_v (builtC_run ?_ w)
      rw [← hc]
      congr 1
      simp
    · exact h.elim
  case pick c x y =>
    rw [ho] at h
    have h := rd_sound H h
    cases hc : a.eval c <;> rw [hc] at h <;> simp only [] at h
    rename_i b
    have h := pick_sound (va := a.eval x) (vb := a.eval y) (fun v hv => H.rdv hv) (fun v hv => H.rdv hv) h
    exact ⟨_, fun w => by simp [execOp, ho, hc, asBool], h⟩
  all_goals (rw [ho] at h; simp only [] at h; rw [← ho] at h; exact dflt h)

/-! ### loads -/
def cellsAre (h : Heap) (a : Addr) : Nat → List Value → Prop
  | _, [] => True
  | i, [v] => hget h (a.add i) = some v
  | i, v :: vs => hget h (a.add i) = some v ∧ cellsAre h a (i + 1) vs

def loadT (P : Program) (t : TypeId) (h : Heap) (a : Addr) (K : Value → (Heap → Prop) → Prop) : Prop :=
  match isAggB P t with
  | true => match P.info? t with
    | some i => match Nat.beq (scsOf P 20 t).length i.size with
      | true => loadAll h a 0 (scsOf P 20 t) fun vs => K (.agg vs.toArray) (fun h' => cellsAre h' a 0 vs)
      | false => False
    | none => False
  | false => match P.underlying t with
    | some _ => match scsOf P 20 t with
      | [s] => s.load h a fun x => K (s.val x) (fun h' => hget h' a = some (s.val x))
      | _ => False
    | none => False

def loadK (P : Program) (o : Oper) (e : Env) (h : Heap) (K : Value → (Heap → Prop) → Prop) : Prop :=
  match o.op with
  | .load t x => rd e x fun v => match v with
    | .pointer p => At p fun a => loadT P t h a K
    | _ => False
  | _ => False

theorem cellsAre_cons {h : Heap} {a : Addr} {i : Nat} {v : Value} {vs : List Value} : cellsAre h a i (v :: vs) ↔ hget h (a.add i) = some v ∧ cellsAre h a (i + 1) vs := by
  cases vs with
  | nil => simp [cellsAre]
  | cons u us => simp [cellsAre]

theorem loadAll_sound {h : Heap} {a : Addr} : ∀ {l : List Sc} {i : Nat} {K : List Value → Prop}, loadAll h a i l K → ∃ vs, vs.length = l.length ∧ cellsAre h a i vs ∧ K vs
  | [], _, _, hk => ⟨[], rfl, trivial, hk⟩
  | s :: l, i, K, hk => by
    obtain ⟨x, hx, hk⟩ := Sc.load_sound hk
    obtain ⟨vs, hl, hc, hk⟩ := loadAll_sound hk
    exact ⟨s.val x :: vs, by simp [hl], cellsAre_cons.2 ⟨hx, hc⟩, hk⟩

theorem run_loadCellsFrom {A : Amb} {h : Heap} {a : Addr} {n : Nat} : ∀ {vs : List Value} {i : Nat} {acc : Array Value}, cellsAre h a i vs →
    (loadCellsFrom a i vs.length acc).run P (A.at h n) = .ok (acc ++ vs.toArray) (A.at h n)
  | [], _, acc, _ => by simp [loadCellsFrom]
  | v :: vs, i, acc, hc => by
    obtain ⟨h1, h2⟩ := cellsAre_cons.1 hc
    have ih := run_loadCellsFrom (A := A) (n := n) (acc := acc.push v) h2
    have hl : (load (a.add i)).run P (A.at h n) = .ok v (A.at h n) := by
      have h1' : (A.at h n).cell? (a.add i) = some v := h1
      simp [load, Sem.run, h1']
    simp only [List.length_cons, loadCellsFrom, Sem.run_bind, hl, Result.andThen_ok, ih]
    simp

theorem run_isAgg {t : TypeId} {w : World} (hu : ∃ d, P.underlying t = some d) : (isAgg t).run P w = .ok (isAggB P t) w := by
  obtain ⟨d, hd⟩ := hu
  unfold isAgg isAggB
  rw [hd]
  cases d <;> simp [run_und hd]

theorem loadT_sound {A : Amb} {t : TypeId} {h : Heap} {a : Addr} {K : Value → (Heap → Prop) → Prop} (hk : loadT P t h a K) :
    ∃ v st, (∀ hp, st hp → ∀ n, (loadVar t a).run P (A.at hp n) = .ok v (A.at hp n)) ∧ st h ∧ K v st := by
  unfold loadT at hk
  cases hb : isAggB P t with
  | true =>
    rw [hb] at hk
    simp only [] at hk
    have hu : ∃ d, P.underlying t = some d := by
      cases hu : P.underlying t with
      | none => simp [isAggB, hu] at hb
      | some d => exact ⟨d, rfl⟩
    split at hk
    · rename_i ei hei
      split at hk
      · rename_i hl
        have hl := Nat.eq_of_beq_eq_true hl
        obtain ⟨vs, hvl, hc, hk⟩ := loadAll_sound hk
        refine ⟨_, _, fun hp hst n => ?_, hc, hk⟩
        have hr := run_loadCellsFrom (P := P) (A := A) (n := n) (acc := #[]) hst
        simp only [loadVar, Sem.run_bind, run_isAgg hu, hb, Result.andThen_ok, if_true, run_sizeOf hei]
        rw [← hl, ← hvl]
        simp only [loadCells, hr, Result.andThen_ok]
        simp
      · exact hk.elim
    · exact hk.elim
  | false =>
    rw [hb] at hk
    simp only [] at hk
    split at hk
    · rename_i d hd
      split at hk
      · rename_i s _
        obtain ⟨x, hx, hk⟩ := Sc.load_sound hk
        refine ⟨_, _, fun hp hst n => ?_, hx, hk⟩
        have h1' : (A.at hp n).cell? a = some (s.val x) := hst
        simp [loadVar, run_isAgg ⟨d, hd⟩, hb, load, Sem.run, h1']
      · exact hk.elim
    · exact hk.elim

theorem load_sound {A : Amb} {N : Nat} {a : Act} {e : Env} (H : Fits N a e) {o : Oper} {h : Heap} {K : Value → (Heap → Prop) → Prop} (hk : loadK P o e h K) :
    ∃ v st, (∀ hp, st hp → exq P A o a.eval v hp) ∧ st h ∧ K v st := by
  unfold loadK at hk
  split at hk
  · rename_i t x ho
    have hk := rd_sound H hk
    split at hk
    · rename_i p hp
      obtain ⟨b, rfl, hk⟩ := At.mk hk
      obtain ⟨v, st, hr, hst, hk⟩ := loadT_sound (A := A) hk
      refine ⟨v, st, fun hp' hst' n => ?_, hst, hk⟩
      have := hr hp' hst' n
      simp only [execOp, ho, hp]
      refine run_v ?_
      simp only [Instr.loadAt, Instr.sureAddr, Sem.run_bind, Sem.run_pure, Result.andThen_ok]
      exact this
    · exact hk.elim
  · exact hk.elim
end
end Go.Lf
