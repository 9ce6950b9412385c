/-
  LIFT, part I: a function's formula gives its contract.
-/
import Derived.Test.YtcaiammecilkeaaLfH
import Derived.RangeFuncRecord
namespace Go.Lf

section
variable {F : Fence} {n : Nat} {P : Program} {c : Code} {Q : Exit → Act → World → Prop} {a : Act} {w : World}

/-- from the head of the next round on, all is well -/
def LoopOk (F : Fence) (n : Nat) (P : Program) (c : Code) (Q : Exit → Act → World → Prop) (a : Act) (w : World) : Prop :=
  ∀ (b : Frame) (k : List Item) (cs : List Frame), b.roundOf = F.round → F.fn b.fn → F.room (cs.length + 1 + n) →
    ∃ e a' w', Q e a' w' ∧ ArrivesIn (Machine.fenced P F) P (lone (b.atR a (.inLoop c :: k)) cs w) b k cs e a' w'

theorem loop_core (h : c.wpIn F n P (Exit.then (LoopOk F n P c Q) Q) a w) (b : Frame) (k : List Item) (cs : List Frame) (hro : b.roundOf = F.round) (hb : F.fn b.fn) (hr : F.room (cs.length + 1 + n)) :
    ∃ e a' w', Q e a' w' ∧ ArrivesIn (Machine.fenced P F) P (lone (b.atR a (.code c :: .inLoop c :: k)) cs w) b k cs e a' w' := by
  obtain ⟨e, a₁, w₁, hq, harr⟩ := h b (.inLoop c :: k) cs hro hb hr
  cases e with
  | normal =>
    obtain ⟨e₂, a₂, w₂, hq₂, harr₂⟩ := hq b k cs hro hb hr
    exact ⟨e₂, a₂, w₂, hq₂, .of_steps harr harr₂⟩
  | exit id => exact ⟨_, a₁, w₁, hq, .pass (x := .inLoop c) rfl (fun _ _ => .inl (by simp)) harr⟩
  | goto l => exact ⟨_, a₁, w₁, hq, .pass (x := .inLoop c) rfl (fun _ _ => .inl (by simp)) harr⟩
  | ret => exact ⟨_, a₁, w₁, hq, .pass (x := .inLoop c) rfl (fun _ _ => .inl (by simp)) harr⟩
  | panic ch => exact ⟨_, a₁, w₁, hq, .pass (x := .inLoop c) rfl (fun _ _ => .inl (by simp)) harr⟩
  | outgrown => exact ⟨_, a₁, w₁, hq, .pass (x := .inLoop c) rfl (fun _ _ => .inl (by simp)) harr⟩

theorem loopOk_step (h : c.wpIn F n P (Exit.then (LoopOk F n P c Q) Q) a w) : LoopOk F n P c Q a w := fun b k cs hro hb hr =>
  let ⟨e, a', w', hq, harr⟩ := loop_core h b k cs hro hb hr
  ⟨e, a', w', hq, .of_steps (.one (fenced_calm hb hr rfl) stepR_inLoop) harr⟩

theorem wpIn_loop_of (h : c.wpIn F n P (Exit.then (LoopOk F n P c Q) Q) a w) : (Code.loop c).wpIn F n P Q a w := fun b k cs hro hb hr =>
  let ⟨e, a', w', hq, harr⟩ := loop_core h b k cs hro hb hr
  ⟨e, a', w', hq, .of_steps (.one (fenced_calm hb hr rfl) stepR_loop) harr⟩
end

theorem Keep.g {W : List Nat} {nd : Bool} {a a' : Act} (h : Keep W a a') : KeepG W nd a a' := ⟨h.get, fun _ => h.ds⟩

theorem heap_at (A : Amb) (h : Heap) (n : Nat) : (A.at h n).heap = h := rfl

theorem run_getLoop {P : Program} {A : Amb} {h : Heap} {n l : Nat} {rec : Go.Loop} (hl : h[l]? = some (.loop rec)) : (Instr.getLoop l).run P (A.at h n) = .ok rec (A.at h n) := by
  simp [Instr.getLoop, Sem.run_bind, getObj, Sem.run, heap_at, hl]

theorem run_setObj {P : Program} {A : Amb} {h : Heap} {n l : Nat} {rec : Go.Loop} {o : Obj} (hl : h[l]? = some (.loop rec)) : (setObj l o).run P (A.at h n) = .ok () (A.at (h.setIfInBounds l o) n) := by
  simp [setObj, Sem.run, hl, Amb.at]

theorem run_beginRound {P : Program} {A : Amb} {h : Heap} {n l : Nat} {rec : Go.Loop} (hl : h[l]? = some (.loop rec)) (hs : rec.state = .ready) :
    (Instr.beginRound l).run P (A.at h n) = .ok () (A.at (h.setIfInBounds l (.loop { rec with state := .busy })) n) := by
  simp [Instr.beginRound, Sem.run_bind, run_getLoop hl, run_setObj hl, hs]

theorem run_endRound {P : Program} {A : Amb} {h : Heap} {n l : Nat} {rec : Go.Loop} {j : Option Code} (hl : h[l]? = some (.loop rec)) :
    (Instr.endRound l j).run P (A.at h n) = .ok (.bool j.isNone) (A.at (h.setIfInBounds l (.loop { rec with state := if j.isNone then .ready else .done, pending := j })) n) := by
  simp [Instr.endRound, Sem.run_bind, run_getLoop hl, run_setObj hl]

theorem run_endLoop {P : Program} {A : Amb} {h : Heap} {n l : Nat} {rec : Go.Loop} (hl : h[l]? = some (.loop rec)) (hs : rec.state ≠ .busy) :
    (Instr.endLoop l).run P (A.at h n) = .ok rec.pending (A.at (h.setIfInBounds l (.loop { rec with state := .exhausted })) n) := by
  simp [Instr.endLoop, Sem.run_bind, run_getLoop hl, run_setObj hl]
  intro h
  exact absurd h hs

theorem run_enterLoop {P : Program} {A : Amb} {h : Heap} {n : Nat} {fn : FuncId} {tmps : Array Value} {ps : Array Tmp} {asg body : Code} :
    (Instr.enterLoop fn tmps ps asg body none).run P (A.at h n) =
      .ok (h.size + 1, [markOf h.size]) (A.at ((h.push (.deferred (some []))).push (.loop { state := .ready, pending := none, fn, tmps, params := ps, assign := asg, body, defers := h.size })) n) := by
  simp [Instr.enterLoop, Sem.run_bind, newObj, Sem.run, Amb.at, markOf]
  rfl

theorem fits_setPs {N : Nat} : ∀ (ps : List Tmp) (vs : List Value) (e : Env) (tmps : Array Value), (∀ p ∈ ps, p < N) → Fits N { tmps := tmps, defers := [] } e →
    Fits N { tmps := (ps.zip vs).foldl (fun tmps (t, a) => tmps.setIfInBounds t a) tmps, defers := [] } (setPs e ps vs)
  | [], _, _, _, _, H => by simpa [setPs] using H
  | _ :: _, [], _, _, _, H => by simpa [setPs] using H
  | p :: ps, v :: vs, e, tmps, hp, H => by
    have h1 := H.set (v := v) (hp p List.mem_cons_self)
    exact fits_setPs ps vs (e.set p v) (tmps.setIfInBounds p v) (fun q hq => hp q (List.mem_cons_of_mem _ hq)) h1

theorem semC_sound {P : Program} {A : Amb} {N : Nat} (hm : P.follows .mixedOrders = true) : ∀ (c : Code) (m : Nat) (inR : Bool) (r : Option Nat) (ann : Ann) (e : Env) (h : Heap) (kn : Env → Heap → Prop) (kb : Nat → Env → Heap → Prop) (kr : Env → Heap → Prop) (a : Act) (n : Nat),
    (inR = false → r = none) → semC A P N inR c ann e h kn kb kr → Fits N a e → c.wpIn (Fw r) m P (Post A N (writes c) (noRF c) a kn kb kr) a (A.at h n) := by
  intro c
  induction c with
  | skip => intro m inR r ann e h kn kb kr a n _ hk H; exact wpIn_skip ⟨e, h, n, rfl, H, KeepG.refl, hk⟩
  | exit id => intro m inR r ann e h kn kb kr a n _ hk H; exact wpIn_exit ⟨e, h, n, rfl, H, KeepG.refl, hk⟩
  | ret => intro m inR r ann e h kn kb kr a n _ hk H; exact wpIn_ret ⟨e, h, n, rfl, H, KeepG.refl, hk⟩
  | label l => intro m inR r ann e h kn kb kr a n _ hk H; simp only [semC] at hk
  | goto l => intro m inR r ann e h kn kb kr a n _ hk H; simp only [semC] at hk
  | refuse y => intro m inR r ann e h kn kb kr a n _ hk H; simp only [semC] at hk
  | scope b _ => intro m inR r ann e h kn kb kr a n _ hk H; simp only [semC] at hk
  | region id ops d =>
    intro m inR r ann e h kn kb kr a n _ hk H
    have plain : ∀ kn', (∀ a' e' h' n', Fits N a' e' → Keep (dstsOf ops.toList) a a' → kn' e' h' → Post A N (writes (.region id ops d)) (noRF (.region id ops d)) a kn kb kr .normal a' (A.at h' n')) →
        semReg A P N ops d e h kn' → (Code.region id ops d).wpIn (Fw r) m P (Post A N (writes (.region id ops d)) (noRF (.region id ops d)) a kn kb kr) a (A.at h n) :=
      fun kn' hq hs => semReg_sound hm hs H hq
    cases ann with
    | reg L kept =>
      simp only [semC] at hk
      split at hk
      · rename_i hkp
        have hk := hk _ (fun _ _ h => h)
        refine plain _ ?_ hk
        intro a' e' h' n' H' hK hx
        obtain ⟨xs, hx1, hx2⟩ := getL_sound hx
        exact ⟨_, h', n', rfl, H.join H' rfl (hK.g (nd := true)) hkp hx1, hK.g, hx2⟩
      · exact hk.elim
    | _ => exact plain kn (fun a' e' h' n' H' hK hx => ⟨e', h', n', rfl, H', hK.g, hx⟩) hk
  | seq x y ihx ihy =>
    intro m inR r ann e h kn kb kr a n hr hk H
    have tail : ∀ (kn' : Env → Heap → Prop) (annx anny : Ann), semC A P N inR x annx e h kn' kb kr →
        (∀ a1 e1 h1, Fits N a1 e1 → KeepG (writes x) (noRF x) a a1 → kn' e1 h1 → ∃ e2, Fits N a1 e2 ∧ semC A P N inR y anny e2 h1 kn kb kr) →
        (Code.seq x y).wpIn (Fw r) m P (Post A N (writes (.seq x y)) (noRF (.seq x y)) a kn kb kr) a (A.at h n) := by
      intro kn' annx anny hx hy
      refine wpIn_seq (wpIn_mono (ihx m inR r annx e h kn' kb kr a n hr hx H) ?_)
      intro ex a1 w1 hp
      have hw1 : ∀ t ∈ writes x, t ∈ writes (.seq x y) := fun t ht => by simp only [writes, List.mem_append]; exact .inl ht
      have hw2 : ∀ t ∈ writes y, t ∈ writes (.seq x y) := fun t ht => by simp only [writes, List.mem_append]; exact .inr ht
      have hn : noRF (.seq x y) = true → noRF x = true ∧ noRF y = true := fun h => by simpa [noRF] using h
      cases ex with
      | normal =>
        obtain ⟨e1, h1, n1, rfl, H1, K1, hx1⟩ := hp
        obtain ⟨e2, H2, hy2⟩ := hy a1 e1 h1 H1 K1 hx1
        refine wpIn_mono (ihy m inR r anny e2 h1 kn kb kr a1 n1 hr hy2 H2) ?_
        rintro ex2 a2 w2 ⟨e3, h3, n3, rfl, H3, K3, hx3⟩
        exact ⟨e3, h3, n3, rfl, H3, K1.trans K3 hw1 hw2 hn, hx3⟩
      | exit id => obtain ⟨e1, h1, n1, rfl, H1, K1, hx1⟩ := hp; exact ⟨e1, h1, n1, rfl, H1, K1.weak hw1 (fun h => (hn h).1), hx1⟩
      | ret => obtain ⟨e1, h1, n1, rfl, H1, K1, hx1⟩ := hp; exact ⟨e1, h1, n1, rfl, H1, K1.weak hw1 (fun h => (hn h).1), hx1⟩
      | goto l => obtain ⟨_, _, _, _, _, _, hx1⟩ := hp; exact hx1.elim
      | panic ch => obtain ⟨_, _, _, _, _, _, hx1⟩ := hp; exact hx1.elim
      | outgrown => obtain ⟨_, _, _, _, _, _, hx1⟩ := hp; exact hx1.elim
    cases ann with
    | seq ax ay =>
      simp only [semC] at hk
      exact tail _ ax ay hk (fun a1 e1 h1 H1 _ hx => ⟨e1, H1, hx⟩)
    | seqJ L kept ax ay =>
      simp only [semC] at hk
      split at hk
      · rename_i hkp
        simp only [Bool.and_eq_true] at hkp
        have hk := hk _ (fun _ _ h => h)
        refine tail _ ax ay hk ?_
        intro a1 e1 h1 H1 K1 hx
        obtain ⟨xs, hx1, hx2⟩ := getL_sound hx
        exact ⟨_, H.join H1 hkp.2 K1 hkp.1 hx1, hx2⟩
      · exact hk.elim
    | _ => simp only [semC] at hk
  | cond v x y ihx ihy =>
    intro m inR r ann e h kn kb kr a n hr hk H
    cases ann with
    | cond ax ay =>
      simp only [semC] at hk
      have hk := rd_sound H hk
      cases hv : a.eval v <;> rw [hv] at hk <;> simp only [] at hk
      rename_i b
      obtain ⟨h1, h2⟩ := PIf.mk hk
      refine wpIn_cond hv ?_
      cases b with
      | true => exact wpIn_mono (ihx m inR r ax e h kn kb kr a n hr (h1 rfl) H) (fun _ _ _ hp => hp.mono (fun t ht => by simp only [writes, List.mem_append]; exact .inl ht) (fun h => by simp [noRF] at h; exact h.1) (fun _ _ h => h) (fun _ _ _ h => h) (fun _ _ h => h))
      | false => exact wpIn_mono (ihy m inR r ay e h kn kb kr a n hr (h2 rfl) H) (fun _ _ _ hp => hp.mono (fun t ht => by simp only [writes, List.mem_append]; exact .inr ht) (fun h => by simp [noRF] at h; exact h.2) (fun _ _ h => h) (fun _ _ _ h => h) (fun _ _ h => h))
    | _ => simp only [semC] at hk
  | block id x ih =>
    intro m inR r ann e h kn kb kr a n hr hk H
    have tail : ∀ (kn' : Env → Heap → Prop) (kb' : Nat → Env → Heap → Prop) (ax : Ann), semC A P N inR x ax e h kn' kb' kr →
        (∀ a1 e1 h1, Fits N a1 e1 → KeepG (writes x) (noRF x) a a1 → kn' e1 h1 → ∃ e2, Fits N a1 e2 ∧ kn e2 h1) →
        (∀ i a1 e1 h1, Fits N a1 e1 → KeepG (writes x) (noRF x) a a1 → kb' i e1 h1 → (i = id ∧ ∃ e2, Fits N a1 e2 ∧ kn e2 h1) ∨ (i ≠ id ∧ kb i e1 h1)) →
        (Code.block id x).wpIn (Fw r) m P (Post A N (writes (.block id x)) (noRF (.block id x)) a kn kb kr) a (A.at h n) := by
      intro kn' kb' ax hx h1 h2
      refine wpIn_block (wpIn_mono (ih m inR r ax e h kn' kb' kr a n hr hx H) ?_)
      intro ex a1 w1 hp
      obtain ⟨e1, hh, n1, rfl, H1, K1, hx1⟩ := hp
      cases ex with
      | normal => obtain ⟨e2, H2, hy⟩ := h1 a1 e1 hh H1 K1 hx1; exact ⟨e2, hh, n1, rfl, H2, K1, hy⟩
      | exit i =>
        simp only [Exit.inBlock]
        rcases h2 i a1 e1 hh H1 K1 hx1 with ⟨hi, e2, H2, hy⟩ | ⟨hi, hy⟩
        · rw [if_pos hi]; exact ⟨e2, hh, n1, rfl, H2, K1, hy⟩
        · rw [if_neg hi]; exact ⟨e1, hh, n1, rfl, H1, K1, hy⟩
      | ret => exact ⟨e1, hh, n1, rfl, H1, K1, hx1⟩
      | goto l => exact hx1.elim
      | panic ch => exact hx1.elim
      | outgrown => exact hx1.elim
    cases ann with
    | block ax =>
      simp only [semC] at hk
      refine tail _ _ ax hk (fun a1 e1 h1 H1 _ hx => ⟨e1, H1, hx⟩) ?_
      intro i a1 e1 h1 H1 _ hx
      by_cases hi : i = id
      · subst hi
        simp only [Nat.beq_refl] at hx
        exact .inl ⟨rfl, e1, H1, hx⟩
      · rw [beq_no hi] at hx
        exact .inr ⟨hi, hx⟩
    | blockJ L kept ax =>
      simp only [semC] at hk
      split at hk
      · rename_i hkp
        simp only [Bool.and_eq_true] at hkp
        have hk := hk _ (fun _ _ h => h)
        have fin : ∀ a1 e1 h1, Fits N a1 e1 → KeepG (writes x) (noRF x) a a1 → getL L e1 (fun xs => kn (joinEnv L kept e xs) h1) → ∃ e2, Fits N a1 e2 ∧ kn e2 h1 := by
          intro a1 e1 h1 H1 K1 hx
          obtain ⟨xs, hx1, hx2⟩ := getL_sound hx
          exact ⟨_, H.join H1 hkp.2 K1 hkp.1 hx1, hx2⟩
        refine tail _ _ ax hk fin ?_
        intro i a1 e1 h1 H1 K1 hx
        by_cases hi : i = id
        · subst hi
          simp only [Nat.beq_refl] at hx
          exact .inl ⟨rfl, fin a1 e1 h1 H1 K1 hx⟩
        · rw [beq_no hi] at hx
          exact .inr ⟨hi, hx⟩
      · exact hk.elim
    | _ => simp only [semC] at hk
  | loop x ih =>
    intro m inR r ann e h kn kb kr a n hr hk H
    cases ann with
    | loop L kept ax =>
      simp only [semC] at hk
      split at hk
      · rename_i hkp
        simp only [Bool.and_eq_true] at hkp
        obtain ⟨xs, hx1, hk⟩ := getL_sound hk
        have hF0 : Fits N a (joinEnv L kept e xs) := H.join H hkp.2 (KeepG.refl (W := writes x)) hkp.1 hx1
        let K : TyL L → Heap → Prop := fun xs h => ∀ a1 n, Fits N a1 (joinEnv L kept e xs) → KeepG (writes x) (noRF x) a a1 →
          x.wpIn (Fw r) m P (Exit.then (LoopOk (Fw r) m P x (Post A N (writes x) (noRF x) a kn kb kr)) (Post A N (writes x) (noRF x) a kn kb kr)) a1 (A.at h n)
        have hK := hk K ?_
        · exact wpIn_loop_of (hK a n hF0 KeepG.refl)
        · intro xs h hb a1 n H1 K1
          refine wpIn_mono (ih m inR r ax _ h _ kb kr a1 n hr hb H1) ?_
          intro ex a2 w2 hp
          obtain ⟨e2, h2, n2, rfl, H2, K2, hx2⟩ := hp
          have K12 : KeepG (writes x) (noRF x) a a2 := K1.trans K2 (fun _ h => h) (fun _ h => h) (fun h => ⟨h, h⟩)
          cases ex with
          | normal =>
            obtain ⟨ys, hy1, hy2⟩ := getL_sound hx2
            exact loopOk_step (hy2 a2 n2 (H1.again H2 hkp.2 K2 hkp.1 hy1) K12)
          | exit i => exact ⟨e2, h2, n2, rfl, H2, K12, hx2⟩
          | ret => exact ⟨e2, h2, n2, rfl, H2, K12, hx2⟩
          | goto l => exact hx2.elim
          | panic ch => exact hx2.elim
          | outgrown => exact hx2.elim
      · exact hk.elim
    | _ => simp only [semC] at hk
  | rangeFunc f ps asg x iha ihx =>
    intro m inR r ann e h kn kb kr a n hr hk H
    cases ann with
    | range lvs ax ay =>
      simp only [semC] at hk
      split at hk
      · rename_i hst
        simp only [Bool.and_eq_true, Bool.not_eq_true', List.all_eq_true] at hst
        obtain ⟨⟨hin, hlen⟩, hps⟩ := hst
        have hlen := Nat.eq_of_beq_eq_true hlen
        have hrn := hr hin
        subst hrn
        have hk := rd_sound H hk
        refine wpIn_rangeFunc fun fn _ => ?_
        let rec0 : Go.Loop := { state := .ready, pending := none, fn, tmps := a.tmps, params := ps, assign := asg, body := x, defers := h.size }
        have gen : ∀ args : List Value, args.length = ps.size → ∀ (hh : Heap) (R : Value → Heap → Prop), hh[h.size + 1]? = some (.loop rec0) →
            semC A P N true asg ax (setPs { get := e.get, ds := [] } ps.toList args) hh
              (fun e' h' => ∃ rec1, h'[h.size + 1]? = some (.loop rec1) ∧ rec1.state = .ready ∧
                semC A P N true x ay e' (h'.setIfInBounds (h.size + 1) (.loop { rec1 with state := .busy }))
                  (fun _ h2 => ∃ rec', h2[h.size + 1]? = some (.loop rec') ∧ R (.bool true) (h2.setIfInBounds (h.size + 1) (.loop { rec' with state := .ready, pending := none })))
                  (fun i _ h2 => ∃ rec', h2[h.size + 1]? = some (.loop rec') ∧ R (.bool false) (h2.setIfInBounds (h.size + 1) (.loop { rec' with state := .done, pending := some (jumpOf (some i)) })))
                  (fun _ h2 => ∃ rec', h2[h.size + 1]? = some (.loop rec') ∧ R (.bool false) (h2.setIfInBounds (h.size + 1) (.loop { rec' with state := .done, pending := some (jumpOf none) }))))
              (fun _ _ _ => False) (fun _ _ => False) →
            CallV A P (.func (.yield (h.size + 1)) #[] #[]) args.toArray hh R := by
          intro args hal hh R hrec hbody n
          have hrun : (do let d ← Deferred.ofValue (.func (.yield (h.size + 1)) #[] #[]) args.toArray; invoke d.target d.args : Sem Next).run P (A.at hh n) =
              .ok (.round (h.size + 1) fn ((ps.zip args.toArray).foldl (fun tmps (t, a) => tmps.setIfInBounds t a) a.tmps) asg x) (A.at hh n) := by
            have hsz : ¬ (args.toArray).size ≠ ps.size := by simp [hal]
            simp only [Deferred.ofValue, Sem.run_bind, Sem.run_pure, Result.andThen_ok, invoke, Instr.yield, run_getLoop hrec, Array.empty_append]
            show Sem.run P (if (args.toArray).size ≠ ps.size then _ else _) _ = _
            rw [if_neg hsz]
            rfl
          rw [hrun]
          simp only [Next.out]
          have hfits : Fits N { tmps := (ps.zip args.toArray).foldl (fun tmps (t, a) => tmps.setIfInBounds t a) a.tmps, defers := [] } (setPs { get := e.get, ds := [] } ps.toList args) := by
            have h0 : Fits N { tmps := a.tmps, defers := [] } { get := e.get, ds := [] } := ⟨H.size, H.get, rfl⟩
            have := fits_setPs ps.toList args _ a.tmps (fun p hp => by simpa using hps p hp) h0
            rw [← Array.foldl_toList, Array.toList_zip]
            exact this
          refine roundIn_of_wpIn trivial (wpIn_mono (iha 0 true (some (h.size + 1)) ax _ hh _ _ _ _ n (fun h => by cases h) hbody hfits) ?_)
          intro ex a1 w1 hp
          obtain ⟨e1, h1, n1, rfl, H1, K1, hx1⟩ := hp
          cases ex <;> simp only at hx1
          obtain ⟨rec1, hr1, hs1, hb1⟩ := hx1
          refine ⟨_, run_beginRound hr1 hs1, ?_⟩
          refine wpIn_mono (ihx 0 true (some (h.size + 1)) ay _ _ _ _ _ a1 n1 (fun h => by cases h) hb1 H1) ?_
          intro ex2 a2 w2 hp2
          obtain ⟨e2, h2, n2, rfl, H2, K2, hx2⟩ := hp2
          cases ex2 <;> simp only at hx2
          · obtain ⟨rec', hr', hR⟩ := hx2
            exact ⟨_, _, run_endRound hr', _, rfl, _, _, rfl, hR⟩
          · obtain ⟨rec', hr', hR⟩ := hx2
            exact ⟨_, _, run_endRound hr', _, rfl, _, _, rfl, hR⟩
          · obtain ⟨rec', hr', hR⟩ := hx2
            exact ⟨_, _, run_endRound hr', _, rfl, _, _, rfl, hR⟩
        obtain ⟨f', args', hcal, hcall⟩ := hk rec0 rfl rfl hlen.symm (fun x hh R hrec hbody => gen (valsA lvs x) ((valsA_length lvs x).trans hlen) hh R hrec hbody)
        obtain ⟨nx, hnx, rfl⟩ := calcK_sound hcal
        have hsplit := hnx (A.at ((h.push (.deferred (some []))).push (.loop rec0)) n)
        rw [Sem.run_bind] at hsplit
        have hres : (resolve a.eval (rangeCall f (h.size + 1)) 0) = Deferred.ofValue (a.eval f) #[.func (.yield (h.size + 1)) #[] #[]] := by
          simp [resolve, Act.eval]
        cases hd : (Deferred.ofValue (a.eval f) #[.func (.yield (h.size + 1)) #[] #[]]).run P (A.at ((h.push (.deferred (some []))).push (.loop rec0)) n) with
        | halt y w => rw [hd] at hsplit; cases hsplit
        | ok d w1 =>
          rw [hd] at hsplit
          have hw1 : w1 = A.at ((h.push (.deferred (some []))).push (.loop rec0)) n := by
            cases hv : a.eval f <;> rw [hv] at hd <;> simp [Deferred.ofValue] at hd <;> first | exact hd.2.symm | (cases hd)
          subst hw1
          refine ⟨h.size + 1, [markOf h.size], _, d, _, f', args', _, run_enterLoop, by rw [hres]; exact hd, fun _ _ => trivial, hsplit, fun hn => by simp at hn, callsIn_fw.2 (Calls.mono (hcall n) ?_)⟩
          rintro ee w3 ⟨v, rfl, h2, n2, rfl, rec2, hrec2, hnb, hj⟩
          have hE : Fits N { a with defers := [markOf h.size] ++ a.defers } { get := e.get, ds := h.size :: e.ds } := ⟨H.size, H.get, by simp [H.ds]⟩
          refine ⟨rec2.pending, _, run_endLoop hrec2 hnb, ?_⟩
          generalize h2.setIfInBounds (h.size + 1) (.loop { rec2 with state := .exhausted }) = h4 at hj ⊢
          rcases hj with ⟨hp, hkn⟩ | ⟨j, hp, hkj⟩
          · rw [hp]
            exact ⟨_, _, _, rfl, hE, ⟨fun _ _ => rfl, fun h => by simp [noRF] at h⟩, hkn⟩
          · rw [hp]
            cases j with
            | none => exact wpIn_ret ⟨_, _, _, rfl, hE, ⟨fun _ _ => rfl, fun h => by simp [noRF] at h⟩, hkj⟩
            | some i => exact wpIn_exit ⟨_, _, _, rfl, hE, ⟨fun _ _ => rfl, fun h => by simp [noRF] at h⟩, hkj⟩
      · exact hk.elim
    | _ => simp only [semC] at hk
end Go.Lf
