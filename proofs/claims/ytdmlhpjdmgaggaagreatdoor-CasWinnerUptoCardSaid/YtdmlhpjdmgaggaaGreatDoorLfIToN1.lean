/-
 LIFT, part I: a function's formula gives its contract.
-/
import Derived.Test.YtdmlhpjdmgaggaaGreatDoorLfGToH
import Derived.RangeFuncRecord
import Derived.Test.YtdmlhpjdmgaggaaGreatDoorProg
set_option linter.unusedVariables false
set_option linter.unusedSimpArgs false
namespace Go.Lf
section
variable {F : Fence} {n : Nat} {P : Program} {c : Code} {Q : Exit → Act → World → Prop} {a : Act} {w : World}
def YD (F : Fence) (n : Nat) (P : Program) (c : Code) (Q : Exit → Act → World → Prop) (a : Act) (w : World) : Prop :=
 ∀ (b : Frame) (k : List Item) (cs : List Frame), b.roundOf = F.round → F.fn b.fn → F.room (cs.length + 1 + n) →
  ∃ e a' w', Q e a' w' ∧ ArrivesIn (Machine.fenced P F) P (lone (b.atR a (.inLoop c :: k)) cs w) b k cs e a' w'
theorem Zh (h : c.wpIn F n P (Exit.then (YD F n P c Q) Q) a w) (b : Frame) (k : List Item) (cs : List Frame) (hro : b.roundOf = F.round) (hb : F.fn b.fn) (hr : F.room (cs.length + 1 + n)) :
  ∃ e a' w', Q e a' w' ∧ ArrivesIn (Machine.fenced P F) P (lone (b.atR a (.code c :: .inLoop c :: k)) cs w) b k cs e a' w' := by
 obtain ⟨e, a₁, w₁, hq, harr⟩ := h b (.inLoop c :: k) cs hro hb hr
 cases e with
 | normal =>
  obtain ⟨e₂, a₂, w₂, hq₂, harr₂⟩ := hq b k cs hro hb hr
  exact ⟨e₂, a₂, w₂, hq₂, .of_steps harr harr₂⟩
 | exit id => exact ⟨_, a₁, w₁, hq, .pass (x := .inLoop c) rfl (fun _ _ => .inl (by simp)) harr⟩
 | goto l => exact ⟨_, a₁, w₁, hq, .pass (x := .inLoop c) rfl (fun _ _ => .inl (by simp)) harr⟩
 | ret => exact ⟨_, a₁, w₁, hq, .pass (x := .inLoop c) rfl (fun _ _ => .inl (by simp)) harr⟩
 | panic ch => exact ⟨_, a₁, w₁, hq, .pass (x := .inLoop c) rfl (fun _ _ => .inl (by simp)) harr⟩
 | outgrown => exact ⟨_, a₁, w₁, hq, .pass (x := .inLoop c) rfl (fun _ _ => .inl (by simp)) harr⟩
theorem ACR (h : c.wpIn F n P (Exit.then (YD F n P c Q) Q) a w) : YD F n P c Q a w := fun b k cs hro hb hr =>
 let ⟨e, a', w', hq, harr⟩ := Zh h b k cs hro hb hr
 ⟨e, a', w', hq, .of_steps (.one (fenced_calm hb hr rfl) stepR_inLoop) harr⟩
theorem ABL (h : c.wpIn F n P (Exit.then (YD F n P c Q) Q) a w) : (Code.loop c).wpIn F n P Q a w := fun b k cs hro hb hr =>
 let ⟨e, a', w', hq, harr⟩ := Zh h b k cs hro hb hr
 ⟨e, a', w', hq, .of_steps (.one (fenced_calm hb hr rfl) stepR_loop) harr⟩
end
def Rx (F : Fence) (n : Nat) (P : Program) (c rest : Code) (Q : Exit → Act → World → Prop) (a : Act) (w : World) : Prop :=
 ∀ (b : Frame) (k : List Item) (cs : List Frame), b.roundOf = F.round → F.fn b.fn → F.room (cs.length + 1 + n) →
  ∃ e a' w', Q e a' w' ∧ ArrivesIn (Machine.fenced P F) P (lone (b.atR a (.code rest :: .inScope c :: k)) cs w) b k cs e a' w'
def AFv (l : Nat) (J : Act → World → Prop) (Q : Exit → Act → World → Prop) : Exit → Act → World → Prop
 | .goto l', a, w => l' = l ∧ J a w
 | e, a, w => Q e a w
section
variable {F : Fence} {n : Nat} {P : Program} {Q : Exit → Act → World → Prop} {a : Act} {w : World}
theorem Yj {P : Program} {b : Frame} {a : Act} {k : List Item} {cs : List Frame} {w : World} {c : Code} : step P (lone (b.atR a (.inScope c :: k)) cs w) = .next (lone (b.atR a k) cs w) :=
 step_lone_go (by simp [stepG, stepG.exec, Frame.atR])
theorem ADp {P : Program} {b : Frame} {a : Act} {k : List Item} {cs : List Frame} {w : World} {c : Code} : step P (lone (b.atR a (.code (.scope c) :: k)) cs w) = .next (lone (b.atR a (.code c :: .inScope c :: k)) cs w) :=
 step_lone_go (by simp [stepG, stepG.exec, Frame.atR])
theorem Ww {c rest x : Code} {l : Nat} (hf : findLabel c l = some rest) (h : x.wpIn F n P (AFv l (Rx F n P c rest Q) Q) a w) : Rx F n P c x Q a w := by
 intro b k cs hro hb hr
 have hg : gotoIn l (.inScope c :: k) = some (.code rest :: .inScope c :: k) := by simp [gotoIn, hf]
 obtain ⟨e, a₁, w₁, hq, harr⟩ := h b (.inScope c :: k) cs hro hb hr
 cases e with
 | normal => exact ⟨.normal, a₁, w₁, hq, StepsIn.trans harr (.one (fenced_calm hb hr rfl) Yj)⟩
 | exit id =>
  have hx : exitTo id (.inScope c :: k) = exitTo id k := by simp [exitTo]
  exact ⟨.exit id, a₁, w₁, hq, fun k' hk => harr.1 k' (by rw [hx]; exact hk), fun hr' hk => harr.2 hr' (by rw [hx]; exact hk)⟩
 | goto l' =>
  obtain ⟨rfl, hJ⟩ := hq
  obtain ⟨e₂, a₂, w₂, hq₂, harr₂⟩ := hJ b k cs hro hb hr
  exact ⟨e₂, a₂, w₂, hq₂, .of_steps (harr.1 _ hg) harr₂⟩
 | ret => exact ⟨_, a₁, w₁, hq, harr⟩
 | panic ch => exact ⟨_, a₁, w₁, hq, harr⟩
 | outgrown => exact ⟨_, a₁, w₁, hq, harr⟩
theorem ZJ {c rest : Code} {l : Nat} (hf : findLabel c l = some rest) (h : c.wpIn F n P (AFv l (Rx F n P c rest Q) Q) a w) : (Code.scope c).wpIn F n P Q a w := fun b k cs hro hb hr =>
 let ⟨e, a', w', hq, harr⟩ := Ww hf h b k cs hro hb hr
 ⟨e, a', w', hq, .of_steps (.one (fenced_calm hb hr rfl) ADp) harr⟩
end
theorem I9.g {W : List Nat} {nd : Bool} {a a' : Act} (h : I9 W a a') : Dt W nd a a' := ⟨h.get, fun _ => h.ds⟩
theorem AJn (A : Amb) (h : Heap) (n : Nat) : (A.at h n).heap = h := rfl
theorem run_getLoop {P : Program} {A : Amb} {h : Heap} {n l : Nat} {rec : Go.Loop} (hl : h[l]? = some (.loop rec)) : (Instr.getLoop l).run P (A.at h n) = .ok rec (A.at h n) := by
 simp [Instr.getLoop, Sem.run_bind, getObj, Sem.run, AJn, hl]
theorem RZ {P : Program} {A : Amb} {h : Heap} {n l : Nat} {rec : Go.Loop} {o : Obj} (hl : h[l]? = some (.loop rec)) : (setObj l o).run P (A.at h n) = .ok () (A.at (h.setIfInBounds l o) n) := by
 simp [setObj, Sem.run, hl, Amb.at]
theorem run_beginRound {P : Program} {A : Amb} {h : Heap} {n l : Nat} {rec : Go.Loop} (hl : h[l]? = some (.loop rec)) (hs : rec.state = .ready) :
  (Instr.beginRound l).run P (A.at h n) = .ok () (A.at (h.setIfInBounds l (.loop { rec with state := .busy })) n) := by
 simp [Instr.beginRound, Sem.run_bind, run_getLoop hl, RZ hl, hs]
theorem run_endRound {P : Program} {A : Amb} {h : Heap} {n l : Nat} {rec : Go.Loop} {j : Option Code} (hl : h[l]? = some (.loop rec)) :
  (Instr.endRound l j).run P (A.at h n) = .ok (.bool j.isNone) (A.at (h.setIfInBounds l (.loop { rec with state := if j.isNone then .ready else .done, pending := j })) n) := by
 simp [Instr.endRound, Sem.run_bind, run_getLoop hl, RZ hl]
theorem run_endLoop {P : Program} {A : Amb} {h : Heap} {n l : Nat} {rec : Go.Loop} (hl : h[l]? = some (.loop rec)) (hs : rec.state ≠ .busy) :
  (Instr.endLoop l).run P (A.at h n) = .ok rec.pending (A.at (h.setIfInBounds l (.loop { rec with state := .exhausted })) n) := by
 simp [Instr.endLoop, Sem.run_bind, run_getLoop hl, RZ hl]
 intro h
 exact absurd h hs
theorem ZP {P : Program} {A : Amb} {h : Heap} {n : Nat} {fn : FuncId} {tmps : Array Value} {ps : Array Tmp} {asg body : Code} :
  (Instr.enterLoop fn tmps ps asg body none).run P (A.at h n) =
   .ok (h.size + 1, [Uk h.size]) (A.at ((h.push (.deferred (some []))).push (.loop { state := .ready, pending := none, fn, tmps, params := ps, assign := asg, body, defers := h.size })) n) := by
 simp [Instr.enterLoop, Sem.run_bind, newObj, Sem.run, Amb.at, Uk]
 rfl
theorem XP {N : Nat} : ∀ (ps : List Tmp) (vs : List Value) (e : Env) (tmps : Array Value), (∀ p ∈ ps, p < N) → Fits N { tmps := tmps, defers := [] } e →
  Fits N { tmps := (ps.zip vs).foldl (fun tmps (t, a) => tmps.setIfInBounds t a) tmps, defers := [] } (Xh e ps vs)
 | [], _, _, _, _, H => by simpa [Xh] using H
 | _ :: _, [], _, _, _, H => by simpa [Xh] using H
 | p :: ps, v :: vs, e, tmps, hp, H => by
  have h1 := H.set (v := v) (hp p List.mem_cons_self)
  exact XP ps vs (e.set p v) (tmps.setIfInBounds p v) (fun q hq => hp q (List.mem_cons_of_mem _ hq)) h1
def Rk (P : Program) (A : Amb) (N : Nat) (c : Code) : Prop := ∀ (m : Nat) (inR : Bool) (r : Option Nat) (ann : Ann) (e : Env) (h : Heap) (kn : Env → Heap → Prop) (kb : Jmp → Env → Heap → Prop) (kr : Env → Heap → Prop) (a : Act) (n : Nat),
  (inR = false → r = none) → D6 A P N inR c ann e h kn kb kr → Fits N a e → c.wpIn (Fw r) m P (Post A N (writes c) (EM c) a kn kb kr) a (A.at h n)
theorem AE7 {P : Program} {A : Amb} {N : Nat} {c d body : Code} {l : Nat} (ihc : Rk P A N c) (ihd : Rk P A N d) {m : Nat} {inR : Bool} {r : Option Nat} {L : Live} {kept : List Nat} {ax ay : Ann} {e : Env} {h : Heap} {kn : Env → Heap → Prop} {kb : Jmp → Env → Heap → Prop} {kr : Env → Heap → Prop} {a0 a : Act} {n : Nat} {W : List Nat} {nd : Bool} {Q : Exit → Act → World → Prop} {J : Act → World → Prop}
  (hr : inR = false → r = none) (hf : findLabel body l = some (.seq .skip d)) (hkp : Jc kept (writes c ++ writes d) = true) (hn1 : EM c = true) (hn2 : EM d = true)
  (hk : D6 A P N inR c ax e h
     (fun e' h' => Jr L e' fun xs => Loop (fun K xs h => D6 A P N inR d ay (ET L kept e xs) h kn
      (fun j e' h' => match j with | .blk i => kb (.blk i) e' h' | .lab l' => match Nat.beq l' l with | true => Jr L e' fun xs => K xs h' | false => False) kr) xs h')
     (fun j e' h' => match j with | .blk i => kb (.blk i) e' h' | .lab _ => False) kr)
  (H : Fits N a e) (weakS : ∀ a2, Dt (writes c ++ writes d) true a a2 → Dt W nd a0 a2) (hQ : Post A N W nd a0 kn kb kr = Q) (hJ : J = Rx (Fw r) m P body (.seq .skip d) Q) : (Code.seq c (.seq (.label l) d)).wpIn (Fw r) m P (AFv l J Q) a (A.at h n) := by
 have hw1 : ∀ t ∈ writes c, t ∈ writes c ++ writes d := fun t ht => List.mem_append.2 (.inl ht)
 have hw2 : ∀ t ∈ writes d, t ∈ writes c ++ writes d := fun t ht => List.mem_append.2 (.inr ht)
 let P1 : TyL L → Heap → Prop := fun xs hh => ∀ a2 n2, Fits N a2 (ET L kept e xs) → Dt (writes c ++ writes d) true a a2 → d.wpIn (Fw r) m P (AFv l J Q) a2 (A.at hh n2)
 refine wpIn_seq (wpIn_mono (ihc m inR r ax e h _ _ kr a n hr hk H) ?_)
 rintro ex a1 w1 ⟨e1, h1, n1, rfl, H1, K1, hx1⟩
 have K1' : Dt (writes c ++ writes d) true a a1 := K1.weak hw1 (fun _ => hn1)
 have K1S := weakS a1 K1'
 cases ex with
 | normal =>
  obtain ⟨xs, hy1, hy2⟩ := GV hx1
  refine wpIn_seq (wpIn_label ?_)
  have hK := hy2 P1 ?_
  ·exact hK a1 n1 (H.join H1 rfl K1' hkp hy1) K1'
  ·intro xs hh hb a2 n2 H2 K2
   refine wpIn_mono (ihd m inR r ay _ hh _ _ kr a2 n2 hr hb H2) ?_
   rintro ex a3 w3 ⟨e3, h3, n3, rfl, H3, K3, hx3⟩
   have K3' : Dt (writes c ++ writes d) true a2 a3 := K3.weak hw2 (fun _ => hn2)
   have K13 : Dt (writes c ++ writes d) true a a3 := K2.trans K3' (fun _ h => h) (fun _ h => h) (fun _ => ⟨rfl, rfl⟩)
   have K13S := weakS a3 K13
   cases ex with
   | normal => rw [← hQ]; exact ⟨e3, h3, n3, rfl, H3, K13S, hx3⟩
   | exit i => rw [← hQ]; exact ⟨e3, h3, n3, rfl, H3, K13S, hx3⟩
   | goto l' =>
    simp only at hx3
    split at hx3
    ·rename_i hl
     have hll := Nat.eq_of_beq_eq_true hl
     subst hll
     obtain ⟨ys, hz1, hz2⟩ := GV hx3
     refine ⟨rfl, ?_⟩
     have hd := hz2 a3 n3 (H2.again H3 rfl K3' hkp hz1) K13
     rw [hJ] at hd ⊢
     exact Ww hf (wpIn_seq (wpIn_skip hd))
    ·exact hx3.elim
   | ret => rw [← hQ]; exact ⟨e3, h3, n3, rfl, H3, K13S, hx3⟩
   | panic ch => exact hx3.elim
   | outgrown => exact hx3.elim
 | exit i => rw [← hQ]; exact ⟨e1, h1, n1, rfl, H1, K1S, hx1⟩
 | goto l' => exact hx1.elim
 | ret => rw [← hQ]; exact ⟨e1, h1, n1, rfl, H1, K1S, hx1⟩
 | panic ch => exact hx1.elim
 | outgrown => exact hx1.elim
theorem ACX {P : Program} {A : Amb} {N : Nat} {b c d : Code} {l : Nat} (ihb : Rk P A N b) (ihc : Rk P A N c) (ihd : Rk P A N d) {m : Nat} {inR : Bool} {r : Option Nat} {L : Live} {kept : List Nat} {a0 ax ay : Ann} {e : Env} {h : Heap} {kn : Env → Heap → Prop} {kb : Jmp → Env → Heap → Prop} {kr : Env → Heap → Prop} {a : Act} {n : Nat}
  (hr : inR = false → r = none) (hfb : (findLabel b l).isNone = true) (hfl : (findLabel c l).isNone = true) (hkp : Jc kept (writes c ++ writes d) = true) (hn0 : EM b = true) (hn1 : EM c = true) (hn2 : EM d = true)
  (hk : D6 A P N inR b a0 e h (fun e h => D6 A P N inR c ax e h
     (fun e' h' => Jr L e' fun xs => Loop (fun K xs h => D6 A P N inR d ay (ET L kept e xs) h kn
      (fun j e' h' => match j with | .blk i => kb (.blk i) e' h' | .lab l' => match Nat.beq l' l with | true => Jr L e' fun xs => K xs h' | false => False) kr) xs h')
     (fun j e' h' => match j with | .blk i => kb (.blk i) e' h' | .lab _ => False) kr) (fun j e' h' => match j with | .blk i => kb (.blk i) e' h' | .lab _ => False) kr)
  (H : Fits N a e) : (Code.scope (.seq b (.seq c (.seq (.label l) d)))).wpIn (Fw r) m P (Post A N (writes (.scope (.seq b (.seq c (.seq (.label l) d))))) (EM (.scope (.seq b (.seq c (.seq (.label l) d))))) a kn kb kr) a (A.at h n) := by
 have hf1 : findLabel b l = none := by simpa using hfb
 have hf2 : findLabel c l = none := by simpa using hfl
 have hf : findLabel (.seq b (.seq c (.seq (.label l) d))) l = some (.seq .skip d) := by simp [findLabel, hf1, hf2]
 have hnS : EM (.scope (.seq b (.seq c (.seq (.label l) d)))) = true := by simp [EM, hn0, hn1, hn2]
 have hwb : ∀ t ∈ writes b, t ∈ writes (.scope (.seq b (.seq c (.seq (.label l) d)))) := fun t ht => by simp only [writes, List.mem_append]; exact .inl ht
 have hwS : ∀ t ∈ writes c ++ writes d, t ∈ writes (.scope (.seq b (.seq c (.seq (.label l) d)))) := fun t ht => by
  rcases List.mem_append.1 ht with h | h
  ·simp only [writes, List.mem_append]; exact .inr (.inl h)
  ·simp only [writes, List.mem_append]; exact .inr (.inr (.inr h))
 generalize hW : writes (.scope (.seq b (.seq c (.seq (.label l) d)))) = W at hwb hwS ⊢
 rw [hnS]
 generalize hQ : Post A N W true a kn kb kr = Q
 obtain ⟨J, hJ⟩ : ∃ J : Act → World → Prop, J = Rx (Fw r) m P (.seq b (.seq c (.seq (.label l) d))) (.seq .skip d) Q := ⟨_, rfl⟩
 refine ZJ hf ?_
 rw [← hJ]
 refine wpIn_seq (wpIn_mono (ihb m inR r a0 e h _ _ kr a n hr hk H) ?_)
 rintro ex a1 w1 ⟨e1, h1, n1, rfl, H1, K1, hx1⟩
 have K1S : Dt W true a a1 := K1.weak hwb fun _ => hn0
 cases ex with
 | normal => exact AE7 ihc ihd hr hf hkp hn1 hn2 hx1 H1 (fun a2 K2 => K1S.trans K2 (fun _ h => h) hwS fun _ => ⟨rfl, rfl⟩) hQ hJ
 | exit i => rw [← hQ]; exact ⟨e1, h1, n1, rfl, H1, K1S, hx1⟩
 | goto l' => exact hx1.elim
 | ret => rw [← hQ]; exact ⟨e1, h1, n1, rfl, H1, K1S, hx1⟩
 | panic ch => exact hx1.elim
 | outgrown => exact hx1.elim
theorem AC9 {P : Program} {A : Amb} {N : Nat} (hm : P.follows .mixedOrders = true) : ∀ (k : Nat) (c : Code), SizeOf.sizeOf c < k → ∀ (m : Nat) (inR : Bool) (r : Option Nat) (ann : Ann) (e : Env) (h : Heap) (kn : Env → Heap → Prop) (kb : Jmp → Env → Heap → Prop) (kr : Env → Heap → Prop) (a : Act) (n : Nat),
  (inR = false → r = none) → D6 A P N inR c ann e h kn kb kr → Fits N a e → c.wpIn (Fw r) m P (Post A N (writes c) (EM c) a kn kb kr) a (A.at h n) := by
 intro k
 induction k with
 | zero => intro c hc; omega
 | succ k ih =>
  intro c hc
  cases c with
  | skip => intro m inR r ann e h kn kb kr a n _ hk H; exact wpIn_skip ⟨e, h, n, rfl, H, Dt.refl, hk⟩
  | exit id => intro m inR r ann e h kn kb kr a n _ hk H; exact wpIn_exit ⟨e, h, n, rfl, H, Dt.refl, hk⟩
  | ret => intro m inR r ann e h kn kb kr a n _ hk H; exact wpIn_ret ⟨e, h, n, rfl, H, Dt.refl, hk⟩
  | label l => intro m inR r ann e h kn kb kr a n _ hk H; exact wpIn_label ⟨e, h, n, rfl, H, Dt.refl, hk⟩
  | goto l => intro m inR r ann e h kn kb kr a n _ hk H; exact wpIn_goto ⟨e, h, n, rfl, H, Dt.refl, hk⟩
  | refuse y => intro m inR r ann e h kn kb kr a n _ hk H; simp only [D6] at hk
  | region id ops d =>
   intro m inR r ann e h kn kb kr a n _ hk H
   have plain : ∀ kn', (∀ a' e' h' n', Fits N a' e' → I9 (dstsOf ops.toList) a a' → kn' e' h' → Post A N (writes (.region id ops d)) (EM (.region id ops d)) a kn kb kr .normal a' (A.at h' n')) →
     Xv A P N ops d e h kn' → (Code.region id ops d).wpIn (Fw r) m P (Post A N (writes (.region id ops d)) (EM (.region id ops d)) a kn kb kr) a (A.at h n) :=
    fun kn' hq hs => AAl hm hs H hq
   cases ann with
   | reg L kept =>
    simp only [D6] at hk
    split at hk
    ·rename_i hkp
     have hk := hk _ (fun _ _ h => h)
     refine plain _ ?_ hk
     intro a' e' h' n' H' hK hx
     obtain ⟨xs, hx1, hx2⟩ := GV hx
     exact ⟨_, h', n', rfl, H.join H' rfl (hK.g (nd := true)) hkp hx1, hK.g, hx2⟩
    ·exact hk.elim
   | _ => exact plain kn (fun a' e' h' n' H' hK hx => ⟨e', h', n', rfl, H', hK.g, hx⟩) hk
  | seq x y =>
   have ihx := ih x (by simp at hc; omega)
   have ihy := ih y (by simp at hc; omega)
   intro m inR r ann e h kn kb kr a n hr hk H
   have tail : ∀ (kn' : Env → Heap → Prop) (annx anny : Ann), D6 A P N inR x annx e h kn' kb kr →
     (∀ a1 e1 h1, Fits N a1 e1 → Dt (writes x) (EM x) a a1 → kn' e1 h1 → ∃ e2, Fits N a1 e2 ∧ D6 A P N inR y anny e2 h1 kn kb kr) →
     (Code.seq x y).wpIn (Fw r) m P (Post A N (writes (.seq x y)) (EM (.seq x y)) a kn kb kr) a (A.at h n) := by
    intro kn' annx anny hx hy
    refine wpIn_seq (wpIn_mono (ihx m inR r annx e h kn' kb kr a n hr hx H) ?_)
    intro ex a1 w1 hp
    have hw1 : ∀ t ∈ writes x, t ∈ writes (.seq x y) := fun t ht => by simp only [writes, List.mem_append]; exact .inl ht
    have hw2 : ∀ t ∈ writes y, t ∈ writes (.seq x y) := fun t ht => by simp only [writes, List.mem_append]; exact .inr ht
    have hn : EM (.seq x y) = true → EM x = true ∧ EM y = true := fun h => by simpa [EM] using h
    cases ex with
    | normal =>
     obtain ⟨e1, h1, n1, rfl, H1, K1, hx1⟩ := hp
     obtain ⟨e2, H2, hy2⟩ := hy a1 e1 h1 H1 K1 hx1
     refine wpIn_mono (ihy m inR r anny e2 h1 kn kb kr a1 n1 hr hy2 H2) ?_
     rintro ex2 a2 w2 ⟨e3, h3, n3, rfl, H3, K3, hx3⟩
     exact ⟨e3, h3, n3, rfl, H3, K1.trans K3 hw1 hw2 hn, hx3⟩
    | exit id => obtain ⟨e1, h1, n1, rfl, H1, K1, hx1⟩ := hp; exact ⟨e1, h1, n1, rfl, H1, K1.weak hw1 (fun h => (hn h).1), hx1⟩
    | ret => obtain ⟨e1, h1, n1, rfl, H1, K1, hx1⟩ := hp; exact ⟨e1, h1, n1, rfl, H1, K1.weak hw1 (fun h => (hn h).1), hx1⟩
    | goto l => obtain ⟨e1, h1, n1, rfl, H1, K1, hx1⟩ := hp; exact ⟨e1, h1, n1, rfl, H1, K1.weak hw1 (fun h => (hn h).1), hx1⟩
    | panic ch => obtain ⟨_, _, _, _, _, _, hx1⟩ := hp; exact hx1.elim
    | outgrown => obtain ⟨_, _, _, _, _, _, hx1⟩ := hp; exact hx1.elim
   cases ann with
   | seq ax ay =>
    simp only [D6] at hk
    exact tail _ ax ay hk (fun a1 e1 h1 H1 _ hx => ⟨e1, H1, hx⟩)
   | seqJ L kept ax ay =>
    simp only [D6] at hk
    split at hk
    ·rename_i hkp
     simp only [Bool.and_eq_true] at hkp
     have hk := hk _ (fun _ _ h => h)
     refine tail _ ax ay hk ?_
     intro a1 e1 h1 H1 K1 hx
     obtain ⟨xs, hx1, hx2⟩ := GV hx
     exact ⟨_, H.join H1 hkp.2 K1 hkp.1 hx1, hx2⟩
    ·exact hk.elim
   | _ => simp only [D6] at hk
  | cond v x y =>
   have ihx := ih x (by simp at hc; omega)
   have ihy := ih y (by simp at hc; omega)
   intro m inR r ann e h kn kb kr a n hr hk H
   cases ann with
   | cond ax ay =>
    simp only [D6] at hk
    have hk := BB H hk
    cases hv : a.eval v <;> rw [hv] at hk <;> simp only [] at hk
    rename_i b
    obtain ⟨h1, h2⟩ := PIf.mk hk
    refine wpIn_cond hv ?_
    cases b with
    | true => exact wpIn_mono (ihx m inR r ax e h kn kb kr a n hr (h1 rfl) H) (fun _ _ _ hp => hp.mono (fun t ht => by simp only [writes, List.mem_append]; exact .inl ht) (fun h => by simp [EM] at h; exact h.1) (fun _ _ h => h) (fun _ _ _ h => h) (fun _ _ h => h))
    | false => exact wpIn_mono (ihy m inR r ay e h kn kb kr a n hr (h2 rfl) H) (fun _ _ _ hp => hp.mono (fun t ht => by simp only [writes, List.mem_append]; exact .inr ht) (fun h => by simp [EM] at h; exact h.2) (fun _ _ h => h) (fun _ _ _ h => h) (fun _ _ h => h))
   | _ => simp only [D6] at hk
  | block id x =>
   have ih := ih x (by simp at hc; omega)
   intro m inR r ann e h kn kb kr a n hr hk H
   have tail : ∀ (kn' : Env → Heap → Prop) (kb' : Jmp → Env → Heap → Prop) (ax : Ann), D6 A P N inR x ax e h kn' kb' kr →
     (∀ a1 e1 h1, Fits N a1 e1 → Dt (writes x) (EM x) a a1 → kn' e1 h1 → ∃ e2, Fits N a1 e2 ∧ kn e2 h1) →
     (∀ i a1 e1 h1, Fits N a1 e1 → Dt (writes x) (EM x) a a1 → kb' (.blk i) e1 h1 → (i = id ∧ ∃ e2, Fits N a1 e2 ∧ kn e2 h1) ∨ (i ≠ id ∧ kb (.blk i) e1 h1)) → (∀ l e1 h1, kb' (.lab l) e1 h1 → kb (.lab l) e1 h1) →
     (Code.block id x).wpIn (Fw r) m P (Post A N (writes (.block id x)) (EM (.block id x)) a kn kb kr) a (A.at h n) := by
    intro kn' kb' ax hx h1 h2 h3
    refine wpIn_block (wpIn_mono (ih m inR r ax e h kn' kb' kr a n hr hx H) ?_)
    intro ex a1 w1 hp
    obtain ⟨e1, hh, n1, rfl, H1, K1, hx1⟩ := hp
    cases ex with
    | normal => obtain ⟨e2, H2, hy⟩ := h1 a1 e1 hh H1 K1 hx1; exact ⟨e2, hh, n1, rfl, H2, K1, hy⟩
    | exit i =>
     simp only [Exit.inBlock]
     rcases h2 i a1 e1 hh H1 K1 hx1 with ⟨hi, e2, H2, hy⟩ | ⟨hi, hy⟩
     ·rw [if_pos hi]; exact ⟨e2, hh, n1, rfl, H2, K1, hy⟩
     ·rw [if_neg hi]; exact ⟨e1, hh, n1, rfl, H1, K1, hy⟩
    | ret => exact ⟨e1, hh, n1, rfl, H1, K1, hx1⟩
    | goto l => exact ⟨e1, hh, n1, rfl, H1, K1, h3 l _ _ hx1⟩
    | panic ch => exact hx1.elim
    | outgrown => exact hx1.elim
   cases ann with
   | block ax =>
    simp only [D6] at hk
    refine tail _ _ ax hk (fun a1 e1 h1 H1 _ hx => ⟨e1, H1, hx⟩) ?_ (fun _ _ _ h => h)
    intro i a1 e1 h1 H1 _ hx
    by_cases hi : i = id
    ·subst hi
     simp only [Nat.beq_refl] at hx
     exact .inl ⟨rfl, e1, H1, hx⟩
    ·simp only [Ov hi] at hx
     exact .inr ⟨hi, hx⟩
   | blockJ L kept ax =>
    simp only [D6] at hk
    split at hk
    ·rename_i hkp
     simp only [Bool.and_eq_true] at hkp
     have hk := hk _ (fun _ _ h => h)
     have fin : ∀ a1 e1 h1, Fits N a1 e1 → Dt (writes x) (EM x) a a1 → Jr L e1 (fun xs => kn (ET L kept e xs) h1) → ∃ e2, Fits N a1 e2 ∧ kn e2 h1 := by
      intro a1 e1 h1 H1 K1 hx
      obtain ⟨xs, hx1, hx2⟩ := GV hx
      exact ⟨_, H.join H1 hkp.2 K1 hkp.1 hx1, hx2⟩
     refine tail _ _ ax hk fin ?_ (fun _ _ _ h => h)
     intro i a1 e1 h1 H1 K1 hx
     by_cases hi : i = id
     ·subst hi
      simp only [Nat.beq_refl] at hx
      exact .inl ⟨rfl, fin a1 e1 h1 H1 K1 hx⟩
     ·simp only [Ov hi] at hx
      exact .inr ⟨hi, hx⟩
    ·exact hk.elim
   | _ => simp only [D6] at hk
  | loop x =>
   have ih := ih x (by simp at hc; omega)
   intro m inR r ann e h kn kb kr a n hr hk H
   cases ann with
   | loop L kept ax =>
    simp only [D6] at hk
    split at hk
    ·rename_i hkp
     simp only [Bool.and_eq_true] at hkp
     obtain ⟨xs, hx1, hk⟩ := GV hk
     have hF0 : Fits N a (ET L kept e xs) := H.join H hkp.2 (Dt.refl (W := writes x)) hkp.1 hx1
     let K : TyL L → Heap → Prop := fun xs h => ∀ a1 n, Fits N a1 (ET L kept e xs) → Dt (writes x) (EM x) a a1 →
      x.wpIn (Fw r) m P (Exit.then (YD (Fw r) m P x (Post A N (writes x) (EM x) a kn kb kr)) (Post A N (writes x) (EM x) a kn kb kr)) a1 (A.at h n)
     have hK := hk K ?_
     ·exact ABL (hK a n hF0 Dt.refl)
     ·intro xs h hb a1 n H1 K1
      refine wpIn_mono (ih m inR r ax _ h _ kb kr a1 n hr hb H1) ?_
      intro ex a2 w2 hp
      obtain ⟨e2, h2, n2, rfl, H2, K2, hx2⟩ := hp
      have K12 : Dt (writes x) (EM x) a a2 := K1.trans K2 (fun _ h => h) (fun _ h => h) (fun h => ⟨h, h⟩)
      cases ex with
      | normal =>
       obtain ⟨ys, hy1, hy2⟩ := GV hx2
       exact ACR (hy2 a2 n2 (H1.again H2 hkp.2 K2 hkp.1 hy1) K12)
      | exit i => exact ⟨e2, h2, n2, rfl, H2, K12, hx2⟩
      | ret => exact ⟨e2, h2, n2, rfl, H2, K12, hx2⟩
      | goto l => exact ⟨e2, h2, n2, rfl, H2, K12, hx2⟩
      | panic ch => exact hx2.elim
      | outgrown => exact hx2.elim
    ·exact hk.elim
   | _ => simp only [D6] at hk
  | rangeFunc f ps asg x =>
   have iha := ih asg (by simp at hc; omega)
   have ihx := ih x (by simp at hc; omega)
   intro m inR r ann e h kn kb kr a n hr hk H
   cases ann with
   | range lvs ax ay =>
    simp only [D6] at hk
    split at hk
    ·rename_i hst
     simp only [Bool.and_eq_true, Bool.not_eq_true', List.all_eq_true] at hst
     obtain ⟨⟨hin, hlen⟩, hps⟩ := hst
     have hlen := Nat.eq_of_beq_eq_true hlen
     have hrn := hr hin
     subst hrn
     have hk := BB H hk
     refine wpIn_rangeFunc fun fn _ => ?_
     let rec0 : Go.Loop := { state := .ready, pending := none, fn, tmps := a.tmps, params := ps, assign := asg, body := x, defers := h.size }
     have gen : ∀ args : List Value, args.length = ps.size → ∀ (hh : Heap) (R : Value → Heap → Prop), hh[h.size + 1]? = some (.loop rec0) →
       D6 A P N true asg ax (Xh { get := e.get, ds := [] } ps.toList args) hh
        (fun e' h' => ∃ rec1, h'[h.size + 1]? = some (.loop rec1) ∧ rec1.state = .ready ∧
         D6 A P N true x ay e' (h'.setIfInBounds (h.size + 1) (.loop { rec1 with state := .busy }))
          (fun _ h2 => ∃ rec', h2[h.size + 1]? = some (.loop rec') ∧ R (.bool true) (h2.setIfInBounds (h.size + 1) (.loop { rec' with state := .ready, pending := none })))
          (fun j _ h2 => match j with | .blk i => (∃ rec', h2[h.size + 1]? = some (.loop rec') ∧ R (.bool false) (h2.setIfInBounds (h.size + 1) (.loop { rec' with state := .done, pending := some (UC (some i)) }))) | .lab _ => False)
          (fun _ h2 => ∃ rec', h2[h.size + 1]? = some (.loop rec') ∧ R (.bool false) (h2.setIfInBounds (h.size + 1) (.loop { rec' with state := .done, pending := some (UC none) }))))
        (fun _ _ _ => False) (fun _ _ => False) →
       Eh A P (.func (.yield (h.size + 1)) #[] #[]) args.toArray hh R := by
      intro args hal hh R hrec hbody n
      have hrun : (do let d ← Deferred.ofValue (.func (.yield (h.size + 1)) #[] #[]) args.toArray; invoke d.target d.args : Sem Next).run P (A.at hh n) =
        .ok (.round (h.size + 1) fn ((ps.zip args.toArray).foldl (fun tmps (t, a) => tmps.setIfInBounds t a) a.tmps) asg x) (A.at hh n) := by
       have hsz : ¬ (args.toArray).size ≠ ps.size := by simp [hal]
       simp only [Deferred.ofValue, Sem.run_bind, Sem.run_pure, Result.andThen_ok, invoke, Instr.yield, run_getLoop hrec, Array.empty_append]
       show Sem.run P (if (args.toArray).size ≠ ps.size then _ else _) _ = _
       rw [if_neg hsz]
       rfl
      rw [hrun]
      simp only [Next.out]
      have hfits : Fits N { tmps := (ps.zip args.toArray).foldl (fun tmps (t, a) => tmps.setIfInBounds t a) a.tmps, defers := [] } (Xh { get := e.get, ds := [] } ps.toList args) := by
       have h0 : Fits N { tmps := a.tmps, defers := [] } { get := e.get, ds := [] } := ⟨H.size, H.get, rfl⟩
       have := XP ps.toList args _ a.tmps (fun p hp => by simpa using hps p hp) h0
       rw [← Array.foldl_toList, Array.toList_zip]
       exact this
      refine roundIn_of_wpIn trivial (wpIn_mono (iha 0 true (some (h.size + 1)) ax _ hh _ _ _ _ n (fun h => by cases h) hbody hfits) ?_)
      intro ex a1 w1 hp
      obtain ⟨e1, h1, n1, rfl, H1, K1, hx1⟩ := hp
      cases ex <;> simp only at hx1
      obtain ⟨rec1, hr1, hs1, hb1⟩ := hx1
      refine ⟨_, run_beginRound hr1 hs1, ?_⟩
      refine wpIn_mono (ihx 0 true (some (h.size + 1)) ay _ _ _ _ _ a1 n1 (fun h => by cases h) hb1 H1) ?_
      intro ex2 a2 w2 hp2
      obtain ⟨e2, h2, n2, rfl, H2, K2, hx2⟩ := hp2
      cases ex2 <;> simp only at hx2
      ·obtain ⟨rec', hr', hR⟩ := hx2
       exact ⟨_, _, run_endRound hr', _, rfl, _, _, rfl, hR⟩
      ·obtain ⟨rec', hr', hR⟩ := hx2
       exact ⟨_, _, run_endRound hr', _, rfl, _, _, rfl, hR⟩
      ·obtain ⟨rec', hr', hR⟩ := hx2
       exact ⟨_, _, run_endRound hr', _, rfl, _, _, rfl, hR⟩
     obtain ⟨f', args', hcal, hcall⟩ := hk rec0 rfl rfl hlen.symm (fun x hh R hrec hbody => gen (Zx lvs x) ((TP lvs x).trans hlen) hh R hrec hbody)
     obtain ⟨nx, hnx, rfl⟩ := JV hcal
     have hsplit := hnx (A.at ((h.push (.deferred (some []))).push (.loop rec0)) n)
     rw [Sem.run_bind] at hsplit
     have hres : (resolve a.eval (rangeCall f (h.size + 1)) 0) = Deferred.ofValue (a.eval f) #[.func (.yield (h.size + 1)) #[] #[]] := by
      simp [resolve, Act.eval]
     cases hd : (Deferred.ofValue (a.eval f) #[.func (.yield (h.size + 1)) #[] #[]]).run P (A.at ((h.push (.deferred (some []))).push (.loop rec0)) n) with
     | halt y w => rw [hd] at hsplit; cases hsplit
     | ok d w1 =>
      rw [hd] at hsplit
      have hw1 : w1 = A.at ((h.push (.deferred (some []))).push (.loop rec0)) n := by
       cases hv : a.eval f <;> rw [hv] at hd <;> simp [Deferred.ofValue] at hd <;> first | exact hd.2.symm | (cases hd)
      subst hw1
      refine ⟨h.size + 1, [Uk h.size], _, d, _, f', args', _, ZP, by rw [hres]; exact hd, fun _ _ => trivial, hsplit, fun hn => by simp at hn, Qm.2 (Calls.mono (hcall n) ?_)⟩
      rintro ee w3 ⟨v, rfl, h2, n2, rfl, rec2, hrec2, hnb, hj⟩
      have hE : Fits N { a with defers := [Uk h.size] ++ a.defers } { get := e.get, ds := h.size :: e.ds } := ⟨H.size, H.get, by simp [H.ds]⟩
      refine ⟨rec2.pending, _, run_endLoop hrec2 hnb, ?_⟩
      generalize h2.setIfInBounds (h.size + 1) (.loop { rec2 with state := .exhausted }) = h4 at hj ⊢
      rcases hj with ⟨hp, hkn⟩ | ⟨j, hp, hkj⟩
      ·rw [hp]
       exact ⟨_, _, _, rfl, hE, ⟨fun _ _ => rfl, fun h => by simp [EM] at h⟩, hkn⟩
      ·rw [hp]
       cases j with
       | none => exact wpIn_ret ⟨_, _, _, rfl, hE, ⟨fun _ _ => rfl, fun h => by simp [EM] at h⟩, hkj⟩
       | some i => exact wpIn_exit ⟨_, _, _, rfl, hE, ⟨fun _ _ => rfl, fun h => by simp [EM] at h⟩, hkj⟩
    ·exact hk.elim
   | _ => simp only [D6] at hk
  | scope b =>
   intro m inR r ann e h kn kb kr a n hr hk H
   cases b with
   | seq b0 y0 =>
    cases y0 with
    | seq c y =>
     cases y with
     | seq z d =>
      cases z with
      | label l =>
       cases ann with
       | scope L kept a0 ax ay =>
        simp only [D6] at hk
        split at hk
        ·rename_i hkp
         simp only [Bool.and_eq_true] at hkp
         obtain ⟨⟨hf1, hf2⟩, hkp, hn0, hn1, hn2⟩ := hkp
         have ihb := ih b0 (by simp at hc; omega)
         have ihc := ih c (by simp at hc; omega)
         have ihd := ih d (by simp at hc; omega)
         exact ACX ihb ihc ihd hr hf1 hf2 hkp hn0 hn1 hn2 hk H
        ·exact hk.elim
       | _ => simp only [D6] at hk
      | _ => simp only [D6] at hk
     | _ => simp only [D6] at hk
    | _ => simp only [D6] at hk
   | _ => simp only [D6] at hk
theorem AE2 {P : Program} {A : Amb} {N : Nat} (hm : P.follows .mixedOrders = true) (c : Code) (m : Nat) (inR : Bool) (r : Option Nat) (ann : Ann) (e : Env) (h : Heap) (kn : Env → Heap → Prop) (kb : Jmp → Env → Heap → Prop) (kr : Env → Heap → Prop) (a : Act) (n : Nat)
  (hr : inR = false → r = none) (hk : D6 A P N inR c ann e h kn kb kr) (H : Fits N a e) : c.wpIn (Fw r) m P (Post A N (writes c) (EM c) a kn kb kr) a (A.at h n) :=
 AC9 hm (SizeOf.sizeOf c + 1) c (Nat.lt_succ_self _) m inR r ann e h kn kb kr a n hr hk H
end Go.Lf

/-
 LIFT, part J: a function: its formula, its contract.
-/
namespace Go.Lf
def Tu (P : Program) : List ResultVar → Env → Heap → (List Value → Prop) → Prop
 | [], _, _, K => K []
 | .tmp t :: r, e, h, K => match e.get t with | some v => Tu P r e h fun vs => K (v :: vs) | none => False
 | .cell a t :: r, e, h, K => match e.get a with
  | some v => (match v with | .pointer p => At p fun ad => loadT P t h ad fun v _ => Tu P r e h fun vs => K (v :: vs) | _ => False)
  | none => False
def oneOf (vs : List Value) (K : Value → Prop) : Prop := match vs with | [v] => K v | vs => K (.tuple vs.toArray)
def ALe (P : Program) (l : List ResultVar) (e : Env) (h : Heap) (K : Value → Prop) : Prop := Tu P l e h fun vs => oneOf vs K
def AEB : List Nat → Heap → (Heap → Prop) → Prop
 | [], h, K => K h
 | r :: rs, h, K => h[r]? = some (.deferred (some [])) ∧ AEB rs (h.setIfInBounds r (.deferred none)) K
def V8 : Nat → List Value → Nat → Option Value
 | _, [], _ => none
 | i, v :: r, t => bif Nat.beq t i then some v else V8 (i + 1) r t
def AKa (P : Program) (fn : Func) (R : Value → Heap → Prop) (e : Env) (h : Heap) : Prop := AEB e.ds h fun h' => ALe P fn.results.toList e h' fun v => R v h'
def AX (A : Amb) (P : Program) (f : FuncId) (ann : Ann) (args : List Value) (h : Heap) (R : Value → Heap → Prop) : Prop :=
 match P.funcs[f]? with
 | none => False
 | some fn => match fn.body with
  | none => False
  | some c => match Nat.ble args.length fn.ntmps with
   | true => D6 A P fn.ntmps false c ann { get := V8 0 args, ds := [] } h (AKa P fn R) (fun _ _ _ => False) (AKa P fn R)
   | false => False
theorem VC : ∀ {l : List Value} {i t : Nat} {v : Value}, V8 i l t = some v → i ≤ t ∧ l[t - i]? = some v
 | [], _, _, _, h => by cases h
 | u :: r, i, t, v, h => by
  unfold V8 at h
  by_cases ht : t = i
  ·subst ht
   have hb : Nat.beq t t = true := by simp
   rw [hb, cond_true] at h
   exact ⟨Nat.le_refl _, by simpa using h⟩
  ·rw [Ov ht, cond_false] at h
   obtain ⟨h1, h2⟩ := VC h
   refine ⟨by omega, ?_⟩
   have : t - i = (t - (i + 1)) + 1 := by omega
   rw [this, List.getElem?_cons_succ]
   exact h2
section
variable {P : Program} {A : Amb}
def ABx (tmps : Array Value) : ResultVar → Sem Value
 | .tmp t => pure (tmps.getD t undef)
 | .cell x t => do loadVar t (← asAddr (tmps.getD x undef))
theorem AFF (fn : Func) (tmps : Array Value) : results fn tmps = (do let vs ← fn.results.mapM (ABx tmps); pure (if h : vs.size = 1 then vs[0] else .tuple vs)) := rfl
theorem NE {N : Nat} {a : Act} {e : Env} (H : Fits N a e) {h : Heap} {n : Nat} : ∀ {l : List ResultVar} {K : List Value → Prop}, Tu P l e h K →
  ∃ vs, (l.mapM (ABx a.tmps)).run P (A.at h n) = .ok vs (A.at h n) ∧ K vs
 | [], K, hk => ⟨[], rfl, hk⟩
 | .tmp t :: r, K, hk => by
  unfold Tu at hk
  split at hk
  ·rename_i v hv
   obtain ⟨vs, hr, hk2⟩ := NE (n := n) H hk
   refine ⟨v :: vs, ?_, hk2⟩
   have hg : a.tmps.getD t undef = v := by have := H.get t v hv; simp [this]
   rw [List.mapM_cons]
   simp only [Sem.run_bind, Sem.run_pure, Result.andThen_ok, ABx, hr, hg]
  ·exact hk.elim
 | .cell x t :: r, K, hk => by
  unfold Tu at hk
  split at hk
  ·rename_i v hv
   split at hk
   ·rename_i p
    obtain ⟨ad, rfl, hk1⟩ := At.mk hk
    obtain ⟨u, st, hl, hst, hk2⟩ := Uv (A := A) hk1
    obtain ⟨vs, hr, hk3⟩ := NE (n := n) H hk2
    refine ⟨u :: vs, ?_, hk3⟩
    have hg : a.tmps.getD x undef = .pointer (some ad) := by have := H.get x _ hv; simp [this]
    rw [List.mapM_cons]
    simp only [Sem.run_bind, Sem.run_pure, Result.andThen_ok, ABx, hg, asAddr, hl h hst n, hr]
   ·exact hk.elim
  ·exact hk.elim
theorem AD3 {N : Nat} {a : Act} {e : Env} (H : Fits N a e) {fn : Func} {h : Heap} {n : Nat} {K : Value → Prop} (hk : ALe P fn.results.toList e h K) :
  ∃ v, (results fn a.tmps).run P (A.at h n) = .ok v (A.at h n) ∧ K v := by
 obtain ⟨vs, hr, hk⟩ := NE (A := A) H (n := n) hk
 have hrun : (results fn a.tmps).run P (A.at h n) = .ok (if hh : vs.toArray.size = 1 then vs.toArray[0] else .tuple vs.toArray) (A.at h n) := by
  rw [AFF, Array.mapM_eq_mapM_toList]
  simp only [Sem.run_bind, Sem.run_map, hr, Result.andThen_ok, Sem.run_pure]
 refine ⟨_, hrun, ?_⟩
 match vs, hk with
 | [], hk => exact hk
 | [v], hk => exact hk
 | u :: v :: r, hk => simpa [oneOf] using hk
theorem U0 {fn : Func} {tmps : Array Value} {R : Ending → World → Prop} {K : Heap → Prop} (hK : ∀ h n, K h → LeavesInM (Fw none) 0 P fn tmps R [] .returning (A.at h n)) :
  ∀ (l : List Nat) (h : Heap) (n : Nat), AEB l h K → LeavesInM (Fw none) 0 P fn tmps R (l.map Uk) .returning (A.at h n)
 | [], h, n, hk => hK h n hk
 | r :: rs, h, n, ⟨hr, hk⟩ => by
  refine ⟨by simp, .inl ⟨r, _, rfl, run_takeDeferred (w := A.at h n) hr, ?_⟩⟩
  exact U0 hK rs _ n hk
theorem AL (hm : P.follows .mixedOrders = true) {f : FuncId} {ann : Ann} {args : List Value} {h : Heap} {R : Value → Heap → Prop} (hk : AX A P f ann args h R) :
  AA A P f args.toArray h R := by
 intro n
 unfold AX at hk
 split at hk
 ·exact hk.elim
 ·rename_i fn hf
  split at hk
  ·exact hk.elim
  ·rename_i c hb
   split at hk
   ·rename_i hle
    have hle := Nat.le_of_ble_eq_true hle
    refine Qm.1 (callsIn_of_wp_marks (F := Fw none) (n := 0) hf hb trivial ?_)
    have H : Fits fn.ntmps { tmps := args.toArray ++ Array.replicate (fn.ntmps - args.toArray.size) undef, defers := [] } { get := V8 0 args, ds := [] } := by
     refine ⟨by simp; omega, fun t v hv => ?_, rfl⟩
     obtain ⟨_, h2⟩ := VC hv
     have hlt : t < args.length := (List.getElem?_eq_some_iff.1 (by simpa using h2)).1
     rw [Array.getElem?_append_left (by simpa using hlt)]
     simpa using h2
    refine wpIn_mono (AE2 hm c 0 false none ann _ h _ _ _ _ n (fun _ => rfl) hk H) ?_
    intro ex a w hp
    obtain ⟨e, h', n', rfl, H', _, hx⟩ := hp
    have fin : AKa P fn R e h' → LeavesInM (Fw none) 0 P fn a.tmps (fun e w' => ∃ v, e = .returned v ∧ ∃ h' n', w' = A.at h' n' ∧ R v h') a.defers .returning (A.at h' n') := by
     intro hr
     rw [H'.ds]
     refine U0 ?_ e.ds h' n' hr
     intro h2 n2 h3
     obtain ⟨v, hv, hR⟩ := AD3 (A := A) H' (n := n2) h3
     exact ⟨v, hv, v, rfl, h2, n2, rfl, hR⟩
    cases ex <;> simp only at hx
    ·exact fin hx
    ·exact fin hx
   ·exact hk.elim
end
def OU (k : IntKind) (a b : Int) : Int := k.wrap ((BitVec.ofInt k.bits a &&& BitVec.ofInt k.bits b).toNat : Int)
def bOr (k : IntKind) (a b : Int) : Int := k.wrap ((BitVec.ofInt k.bits a ||| BitVec.ofInt k.bits b).toNat : Int)
def UZ (k : IntKind) (a b : Int) : Int := k.wrap ((BitVec.ofInt k.bits a ^^^ BitVec.ofInt k.bits b).toNat : Int)
end Go.Lf

/-
 The names of functions and types in this translation.
-/
namespace Go.Lf.G
noncomputable abbrev P : Program := Go.Proofs.Tryz.prog
def E9 : FuncId := 3
def Dc : FuncId := 4
def FL : FuncId := 5
def Eg : FuncId := 7
def Ca : FuncId := 12
def Eb : FuncId := 13
def Gu : FuncId := 14
def BN : FuncId := 15
def Bj : FuncId := 16
def Cf : FuncId := 17
def EW : FuncId := 18
def CY : FuncId := 19
def CR : FuncId := 20
def Gi : FuncId := 22
def Fu : FuncId := 23
def Ig : FuncId := 24
def G9 : FuncId := 25
def I8 : FuncId := 35
def JQ : FuncId := 36
def IW : FuncId := 37
def Ex : FuncId := 38
def Em : FuncId := 39
def DI : FuncId := 40
def Dm : FuncId := 41
def Dh : FuncId := 42
def JI : FuncId := 43
def LK : FuncId := 44
def E5 : FuncId := 45
def DU : FuncId := 46
def DJ : FuncId := 47
def Aw : FuncId := 48
def Kn : FuncId := 54
def KE : FuncId := 55
def GU : FuncId := 56
def BJ : FuncId := 57
def DC : FuncId := 58
def Et : FuncId := 59
def FI : FuncId := 60
def IQ : FuncId := 61
def ER : FuncId := 62
def Dz : FuncId := 63
def JG : FuncId := 64
def FN : FuncId := 65
def IU : FuncId := 66
def G8 : FuncId := 67
def F8 : FuncId := 68
def EA : FuncId := 69
def LQ : FuncId := 70
def Bb : FuncId := 71
def Ey : FuncId := 72
def FU : FuncId := 73
def El : FuncId := 74
def Gq : FuncId := 75
def H9 : FuncId := 76
def Jz : FuncId := 77
def IZ : FuncId := 78
def Be : FuncId := 79
def FB : FuncId := 80
def Aj : FuncId := 81
def Bf : FuncId := 82
def Fb : FuncId := 83
def Ew : FuncId := 84
def EI : FuncId := 85
def JN : FuncId := 86
def D8 : FuncId := 87
def Dn : FuncId := 90
def CB : FuncId := 93
def Dx : FuncId := 94
def Cn : FuncId := 95
def GL : FuncId := 96
def Ga : FuncId := 97
def Gh : FuncId := 98
def EN : FuncId := 99
def Dy : FuncId := 100
def KR : FuncId := 101
def Fe : FuncId := 102
def JR : FuncId := 103
def DN : FuncId := 104
def DT : FuncId := 105
def J4 : FuncId := 106
def GJ : FuncId := 107
def Pk : FuncId := 108
def CV : FuncId := 109
def Du : FuncId := 110
def EU : FuncId := 111
def Ev : FuncId := 112
def Gb : FuncId := 113
def H7 : FuncId := 114
def BG : FuncId := 115
def JE : FuncId := 116
def BU : FuncId := 117
def FC : FuncId := 118
def Cu : FuncId := 119
def Dr : FuncId := 120
def Ee : FuncId := 121
def F4 : FuncId := 122
def JJ : FuncId := 123
def ES : FuncId := 124
def JF : FuncId := 125
def ED : FuncId := 126
def J6 : FuncId := 130
def GR : FuncId := 131
def MN : FuncId := 132
def J3 : FuncId := 133
def KJ : FuncId := 134
def F6 : FuncId := 136
def IY : FuncId := 137
def Dw : FuncId := 140
def JH : FuncId := 141
def EJ : FuncId := 142
def IA : FuncId := 143
def JY : FuncId := 144
def LF : FuncId := 145
def BZ : FuncId := 146
def Bq : FuncId := 147
def IM : FuncId := 148
def Cc : FuncId := 149
def IJ : FuncId := 150
def Ef : FuncId := 151
def Jw : FuncId := 165
def Jv : FuncId := 166
def Bc : FuncId := 177
def t_ : TypeId := 0
def BO : TypeId := 3
def Jj : TypeId := 4
def Cx : TypeId := 5
def Ad : TypeId := 9
def AP : TypeId := 22
def A8 : TypeId := 23
def Cb : TypeId := 32
def Ag : TypeId := 34
def Cq : TypeId := 42
def AO : TypeId := 44
def Cr : TypeId := 47
def Fp : TypeId := 53
def EF : TypeId := 55
def Bl : TypeId := 61
def WH : TypeId := 81
def Og : TypeId := 87
def BD : TypeId := 88
def Tt : TypeId := 90
def JP : TypeId := 93
def ABp : TypeId := 103
def KZ : TypeId := 105
def ZQ : TypeId := 119
def Ae : TypeId := 121
def De : TypeId := 123
def Aq : TypeId := 127
def BI : TypeId := 144
def Ak : TypeId := 153
def UE : TypeId := 164
def Cj : TypeId := 166
def Ni : TypeId := 168
def Uz : TypeId := 170
def Qk : TypeId := 172
def JL : TypeId := 175
def V3 : TypeId := 183
def Gg : TypeId := 194
def Ce : TypeId := 215
def Pm : TypeId := 276
def Cy : TypeId := 278
def Dg : TypeId := 280
theorem mixed : P.follows .mixedOrders = true := by decide +kernel
end Go.Lf.G

