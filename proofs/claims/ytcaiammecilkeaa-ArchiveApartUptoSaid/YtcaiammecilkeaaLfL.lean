/-
  LIFT, part L: rules for loops, for values of struct{string, string, bool}, and for ranges over functions.
-/
import Derived.Test.YtcaiammecilkeaaLfK
namespace Go.Lf

/-! ### loops -/
theorem Loop.rule {σ : Type} {F : (σ → Heap → Prop) → σ → Heap → Prop} (I : Nat → σ → Heap → Prop)
    (step : ∀ K m x h, I m x h → (∀ m' x' h', m' < m → I m' x' h' → K x' h') → F K x h) {m : Nat} {x : σ} {h : Heap} (h0 : I m x h) : Loop F x h := by
  intro K hK
  induction m using Nat.strongRecOn generalizing x h with
  | _ m ih => exact hK _ _ (step K m x h h0 fun m' x' h' hm hI => ih m' hm hI)

theorem wrap_nat {n : Nat} (h : n ≤ 9223372036854775807) : IntKind.wrap .i64 (n : Int) = (n : Int) := by
  simp only [IntKind.wrap, IntKind.bits, IntKind.signed]
  have h2 : ((n : Int)) % ((2 : Int) ^ 64) = n := by omega
  have h3 : ¬ ((n : Int) ≥ (2 : Int) ^ (64 - 1)) := by omega
  simp only [h2]
  simp
  omega
theorem wrap_succ {n : Nat} (h : n < 9223372036854775807) : IntKind.wrap .i64 ((n : Int) + (1 : Int)) = ((n + 1 : Nat) : Int) := by
  rw [show ((n : Int) + 1) = ((n + 1 : Nat) : Int) by omega]; exact wrap_nat h

theorem LoadV.mk {h : Heap} {a : Addr} {K : Value → Prop} {v : Value} (hv : hget h a = some v) (H : K v) : LoadV h a K := ⟨v, hv, H⟩
theorem LoadI.mk {h : Heap} {a : Addr} {k : IntKind} {K : Int → Prop} {n : Int} (hv : hget h a = some (.int k n)) (H : K n) : LoadI k h a K := ⟨n, hv, H⟩
theorem LoadB.mk {h : Heap} {a : Addr} {K : Bool → Prop} {n : Bool} (hv : hget h a = some (.bool n)) (H : K n) : LoadB h a K := ⟨n, hv, H⟩
theorem LoadS.mk {h : Heap} {a : Addr} {K : ByteArray → Prop} {n : ByteArray} (hv : hget h a = some (.string n)) (H : K n) : LoadS h a K := ⟨n, hv, H⟩
theorem LoadP.mk {h : Heap} {a : Addr} {K : Option Addr → Prop} {n : Option Addr} (hv : hget h a = some (.pointer n)) (H : K n) : LoadP h a K := ⟨n, hv, H⟩
theorem LoadL.mk {h : Heap} {a : Addr} {K : Sl → Prop} {s : Sl} (hv : hget h a = some (.slice s.p s.len s.cap)) (H : K s) : LoadL h a K := ⟨s, hv, H⟩

/-- a cell of a block whose cells are told -/
theorem hget_lit {h : Heap} {b j : Nat} {cs : Array Value} {T : TypeId} {fr : Nat × Nat} {v : Value} (hb : h[b]? = some (.cells cs T fr)) (hv : cs[j]? = some v) : hget h ⟨b, j, none⟩ = some v := by
  rw [hget_cells hb]; exact hv
theorem hget_lit1 {h : Heap} {b j : Nat} {cs : Array Value} {T : TypeId} {fr : Nat × Nat} {v : Value} (hb : h[b]? = some (.cells cs T fr)) (hv : cs[j]? = some v) : hget h ((⟨b, 0, none⟩ : Addr).add j) = some v := by
  rw [add_mk, Nat.zero_add]; exact hget_lit hb hv

/-! ### pairs -/
structure Pr where
  key : ByteArray
  val : ByteArray
  gone : Bool
deriving DecidableEq

def Pr.agg (x : Pr) : Value := .agg #[.string x.key, .string x.val, .bool x.gone]
def Pr.cells (x : Pr) : Array Value := #[.string x.key, .string x.val, .bool x.gone]

def PairE : Enc Pr where
  enc x := [.string x.key, .string x.val, .bool x.gone]
  w := 3
  len _ := rfl
  pos := by omega
  one x v hv := by simp at hv; rcases hv with rfl | rfl | rfl <;> rfl

def SlE : Enc Sl where
  enc s := [.slice s.p s.len s.cap]
  w := 1
  len _ := rfl
  pos := by omega
  one x v hv := by simp at hv; subst hv; rfl

structure OneV where
  v : Value
  one : oneB v = true

def ValE : Enc OneV where
  enc s := [s.v]
  w := 1
  len _ := rfl
  pos := by omega
  one x v hv := by simp at hv; subst hv; exact x.one

/-- element i of a slice: its address, and what lies there -/
theorem View.idx {α : Type} {E : Enc α} {h : Heap} {s : Sl} {l : List α} (v : View E h s l) {i : Nat} {x : α} (hi : l[i]? = some x) {K : Addr → Prop}
    (H : ∀ a, s.p = some a → Cells h (a.add (i * E.w)) (E.enc x) → K a) : Idx s.p s.len ((i : Nat) : Int) K := by
  obtain ⟨a, ha, hc⟩ := v.cells i x hi
  have : i < s.len := by rw [v.len]; exact (List.getElem?_eq_some_iff.1 hi).1
  exact Idx.mk ha this (H a ha hc)

theorem Cells.pair {h : Heap} {a : Addr} {x : Pr} (c : Cells h a (PairE.enc x)) : hget h a = some (.string x.key) ∧ hget h (a.add 1) = some (.string x.val) ∧ hget h (a.add 2) = some (.bool x.gone) := by
  have h0 := c 0 _ rfl
  rw [add_zero] at h0
  exact ⟨h0, c 1 _ rfl, c 2 _ rfl⟩
theorem Cells.sl {h : Heap} {a : Addr} {x : Sl} (c : Cells h a (SlE.enc x)) : hget h a = some (.slice x.p x.len x.cap) := by
  have h0 := c 0 _ rfl
  rwa [add_zero] at h0
theorem Cells.val {h : Heap} {a : Addr} {x : OneV} (c : Cells h a (ValE.enc x)) : hget h a = some x.v := by
  have h0 := c 0 _ rfl
  rwa [add_zero] at h0

/-- a new variable for a pair -/
theorem New.pair {h : Heap} {T : TypeId} {e1 e2 : ByteArray} {e3 : Bool} {k v : ByteArray} {g : Bool} {K : Nat → Heap → Prop}
    (H : ∀ b h', b = h.size → h'[b]? = some (.cells #[.string k, .string v, .bool g] T (0, 0)) → Ext h h' → h'.size = h.size + 1 → K b h') :
    New h (.cells #[.string e1, .string e2, .bool e3] T) fun b h1 => Store h1 ⟨b, 0, none⟩ (.string k) fun h2 => Store h2 ((⟨b, 0, none⟩ : Addr).add 1) (.string v) fun h3 => Store h3 ((⟨b, 0, none⟩ : Addr).add 2) (.bool g) fun h4 => K b h4 := by
  refine New.mk fun h1 _ hb hx hsz => ?_
  refine Store.mk hb (by simp) fun h2 hb2 m2 hs2 => ?_
  rw [add_mk, add_mk]
  refine Store.mk hb2 (by simp) fun h3 hb3 m3 hs3 => ?_
  refine Store.mk hb3 (by simp) fun h4 hb4 m4 hs4 => ?_
  refine H _ _ rfl (by simpa using hb4) ?_ (by omega)
  have m := (m2.trans m3).trans m4
  exact ⟨by omega, fun b hlt _ => (m.get b (by omega) (by omega)).trans (hx.get b hlt (by simp))⟩

/-- a pair behind an owned slice -/
theorem New.append1 {A : Amb} {P : Program} {t ty T : TypeId} {B : Nat} {α : Type} {E : Enc α} {x : α} {cs : Array Value} (hcs : cs.toList = E.enc x) (hT : appB P t T E.w B = true) {h : Heap} {s : Sl} {l : List α} {K : Sl → Heap → Prop}
    (ho : Own E T h s l) (hb : (l.length + 1) * B ≤ 140737488355328) (hl : l.length + 1 ≤ maxLen)
    (H : ∀ s' h', Own E T h' s' (l ++ [x]) → Mod (fun b => s.blk = some b) h h' → (∀ b, s'.blk = some b → s.blk = some b ∨ h.size ≤ b) → s'.p ≠ none → K s' h') :
    New h (.cells cs T) fun b h1 => RunK A P (Builtin.append_ #[t, t] ty #[.slice s.p s.len s.cap, .slice (some ⟨b, 0, none⟩) 1 1]) h1 fun v h' => ∃ s' : Sl, v = .slice s'.p s'.len s'.cap ∧ K s' h' := by
  refine New.mk fun h1 _ hb1 hx hsz => ?_
  have ho1 : Own E T h1 ⟨some ⟨h.size, 0, none⟩, 1, 1⟩ [x] := Own.lit (E := E) (l := [x]) hb1 (by simp [hcs]) (by simp [maxLen])
  refine append_own (s := s) (src := ⟨some ⟨h.size, 0, none⟩, 1, 1⟩) hT (ho.ext hx) ho1.view (by simpa using hb) (by simpa using hl) fun s' h' hs' hm hbl hn => ?_
  refine H s' h' hs' ?_ ?_ ?_
  · exact hx.mod.trans hm
  · intro b hb2
    rcases hbl b hb2 with h3 | h3
    · exact .inl h3
    · exact .inr (by omega)
  · intro hp; have := (hn.1 hp).2; simp at this

/-- the part of a slice between two places -/
theorem View.sub {α : Type} {E : Enc α} {h : Heap} {s : Sl} {l : List α} (v : View E h s l) {lo hi : Nat} (h1 : lo ≤ hi) (h2 : hi ≤ l.length) :
    View E h ⟨slOff s.p s.cap lo E.w, hi - lo, s.cap - lo⟩ ((l.take hi).drop lo) := by
  have hc := v.cap
  have hl := v.len
  refine ⟨by simp; omega, by simp; omega, fun i x hx => ?_⟩
  rw [List.getElem?_drop, List.getElem?_take] at hx
  split at hx
  · rename_i hlt
    obtain ⟨a, ha, hcs⟩ := v.cells _ _ hx
    refine ⟨a.add (lo * E.w), ?_, ?_⟩
    · unfold slOff
      simp only [ha]
      rw [if_neg (by omega)]
      rfl
    · rw [add_add, ← Nat.add_mul]; exact hcs
  · cases hx

theorem slOff_blk {p : Option Addr} {cap lo w : Nat} {b : Nat} {len c : Nat} (h : Sl.blk ⟨slOff p cap lo w, len, c⟩ = some b) : p.map (·.block) = some b := by
  unfold Sl.blk slOff at h
  simp only at h
  split at h
  · exact h
  · cases p with
    | none => simp at h
    | some a => simp [add_block] at h; simp [h]

/-! ### functions to be ranged over -/
/-- yields: what a function calls for each pair; it owns O -/
def Yields (A : Amb) (P : Program) (yv : Value) (l : List Pr) (J : Nat → Bool → (Nat → Prop) → Heap → Prop) : Prop :=
  ∀ i x O hh, l[i]? = some x → J i true O hh → CallV A P yv #[x.agg] hh fun v h' => ∃ g O', v = .bool g ∧ (∀ b, O' b → O b ∨ hh.size ≤ b) ∧ Mod O hh h' ∧ J (i + 1) g O' h'

structure Body (h : Heap) (J : Nat → Bool → (Nat → Prop) → Heap → Prop) : Prop where
  wf : ∀ i g O hh, J i g O hh → ∀ b, O b → b < hh.size
  stable : ∀ i g O hh h', J i g O hh → Mod (fun b => ¬ O b ∧ h.size ≤ b) hh h' → J i g O h'

/-- a function value that yields l; it looks at the blocks S as they are in h0 -/
def IterV (A : Amb) (P : Program) (fv : Value) (S : Nat → Prop) (h0 : Heap) (l : List Pr) : Prop :=
  (∀ b, S b → b < h0.size) ∧ ∃ f caps, fv = .func (.func f) #[] caps ∧ (∀ yv, (callFunc f (#[] ++ #[yv] ++ caps)).calc P = some (.enter f (#[] ++ #[yv] ++ caps))) ∧
    ∀ (h : Heap), (∀ b, S b → h[b]? = h0[b]?) → ∀ yv J O, oneB yv = true → (∀ b, S b → ¬ O b) → Body h J → Yields A P yv l J → J 0 true O h →
      HCalls A P f (#[] ++ #[yv] ++ caps) h fun v h' => v = .tuple #[] ∧ ∃ i g O', Mod O h h' ∧ (∀ b, O' b → O b ∨ h.size ≤ b) ∧ J i g O' h' ∧ (g = true → i = l.length) ∧ i ≤ l.length

theorem IterV.weak {A : Amb} {P : Program} {fv : Value} {S S' : Nat → Prop} {h0 h1 : Heap} {l : List Pr} (it : IterV A P fv S h0 l) (hS : ∀ b, S b → S' b) (hl : ∀ b, S' b → b < h1.size) (hh : ∀ b, S b → h1[b]? = h0[b]?) : IterV A P fv S' h1 l := by
  obtain ⟨_, f, caps, e, hc, H⟩ := it
  refine ⟨hl, f, caps, e, hc, fun h hS' yv J O hy hd => H h (fun b hb => (hS' b (hS b hb)).trans (hh b hb)) yv J O hy fun b hb => hd b (hS b hb)⟩

theorem IterV.one {A : Amb} {P : Program} {fv : Value} {S : Nat → Prop} {h0 : Heap} {l : List Pr} (it : IterV A P fv S h0 l) : oneB fv = true ∧ isFn fv ∧ isNilF fv = false := by
  obtain ⟨_, f, caps, rfl, _⟩ := it
  exact ⟨rfl, by simp [isFn], rfl⟩

def arg1 (x : Pr) : TyA [.agg [.str, .str, .bool]] := ((x.key, x.val, x.gone, ()), ())

/-- how a round of a range's body ends -/
def RoundEnd (l : Nat) (rec : Go.Loop) (hh : Heap) (O : Nat → Prop) (I : (Nat → Prop) → Heap → Prop) (h' : Heap) : Prop :=
  ∃ O', (∀ b, O' b → O b ∨ hh.size ≤ b) ∧ Mod (fun b => O b ∨ b = l) hh h' ∧ h'[l]? = some (.loop { rec with state := .busy }) ∧ I O' h'

theorem Mod.setObj {S : Nat → Prop} {h : Heap} {l : Nat} {o : Obj} (hs : S l) : Mod S h (h.setIfInBounds l o) :=
  ⟨by simp, fun b _ hn => by rw [Array.getElem?_setIfInBounds_ne]; intro e; exact hn (e ▸ hs)⟩
theorem setObj_self {h : Heap} {l : Nat} {o : Obj} (hl : l < h.size) : (h.setIfInBounds l o)[l]? = some o := by simp [hl]

theorem range_iter {A : Amb} {P : Program} {fv : Value} {S : Nat → Prop} {h0 h : Heap} {l : List Pr} (it : IterV A P fv S h0 l) (hS : ∀ b, S b → h[b]? = h0[b]?)
    (Inv : Nat → Option (Option Nat) → (Nat → Prop) → Heap → Prop) (O : Nat → Prop) (hd : ∀ b, S b → ¬ O b)
    {body : TyA [.agg [.str, .str, .bool]] → Nat → Heap → (Heap → Prop) → (Option Nat → Heap → Prop) → Prop} {kn : Heap → Prop} {kj : Option Nat → Heap → Prop}
    (wf : ∀ i c O hh, Inv i c O hh → ∀ b, O b → b < hh.size)
    (stable : ∀ i c O hh h', Inv i c O hh → Mod (fun b => ¬ O b ∧ h.size ≤ b) hh h' → Inv i c O h')
    (init : Inv 0 none O h)
    (round : ∀ i x O1 hh rec kn' kj', l[i]? = some x → Inv i none O1 hh → ¬ O1 (h.size + 1) → h.size + 1 < hh.size → hh[h.size + 1]? = some (.loop rec) → rec.state = .ready →
      (∀ h', RoundEnd (h.size + 1) rec hh O1 (Inv (i + 1) none) h' → kn' h') → (∀ j h', RoundEnd (h.size + 1) rec hh O1 (Inv (i + 1) (some j)) h' → kj' j h') → body (arg1 x) (h.size + 1) hh kn' kj')
    (fin : ∀ O' h', Inv l.length none O' h' → Mod O h h' → ¬ O' h.size → (∀ b, O' b → O b ∨ h.size ≤ b) → h'[h.size]? = some (.deferred (some [])) → kn h')
    (finj : ∀ i j O' h', Inv i (some j) O' h' → i ≤ l.length → Mod O h h' → ¬ O' h.size → (∀ b, O' b → O b ∨ h.size ≤ b) → h'[h.size]? = some (.deferred (some [])) → kj j h') :
    RangeK A P fv [.agg [.str, .str, .bool]] body h kn kj := by
  intro rec hst hpd hsz hy
  obtain ⟨hlt, f, caps, rfl, hc, H⟩ := it
  have hOlt : ∀ b, O b → b < h.size := wf _ _ _ _ init
  have hSlt : ∀ b, S b → b < h.size := fun b hb => by
    have := hS b hb
    rw [Array.getElem?_eq_getElem (hlt b hb)] at this
    exact blk_lt this
  have hext : Ext h ((h.push (.deferred (some []))).push (.loop rec)) := (Mod.push h _).trans (Mod.push _ _)
  have hsz2 : ((h.push (.deferred (some []))).push (.loop rec)).size = h.size + 2 := by simp
  refine ⟨f, _, ?_, HCalls.mono (H ((h.push (.deferred (some []))).push (.loop rec)) (fun b hb => (hext.get b (hSlt b hb) (by simp)).trans (hS b hb)) (.func (.yield (h.size + 1)) #[] #[])
    (fun i g OJ hh => ∃ O1 : Nat → Prop, (∀ b, OJ b ↔ O1 b ∨ b = h.size ∨ b = h.size + 1) ∧ ¬ O1 h.size ∧ ¬ O1 (h.size + 1) ∧ (∀ b, O1 b → O b ∨ h.size ≤ b) ∧ h.size + 2 ≤ hh.size ∧ hh[h.size]? = some (.deferred (some [])) ∧
      match g with
      | true => hh[h.size + 1]? = some (.loop rec) ∧ Inv i none O1 hh
      | false => ∃ j rec', hh[h.size + 1]? = some (.loop rec') ∧ rec'.state ≠ .busy ∧ rec'.pending = some (jumpOf j) ∧ Inv i (some j) O1 hh)
    (fun b => O b ∨ b = h.size ∨ b = h.size + 1) rfl ?_ ?_ ?_ ?_) ?_⟩
  · have hcv : (do let d ← Deferred.ofValue (.func (.func f) #[] caps) #[.func (.yield (h.size + 1)) #[] #[]]; invoke d.target d.args : Sem Next).calc P = (callFunc f (#[] ++ #[.func (.yield (h.size + 1)) #[] #[]] ++ caps)).calc P := rfl
    unfold CalcK
    rw [hcv, hc]
  · intro b hb h1
    have := hSlt b hb
    rcases h1 with h1 | h1 | h1
    · exact hd b hb h1
    · omega
    · omega
  · constructor
    · rintro i g OJ hh ⟨O1, e, _, _, _, hs, _, hm⟩ b hb
      rcases (e b).1 hb with h1 | h1 | h1
      · cases g
        · obtain ⟨j, rec', _, _, _, hI⟩ := hm
          exact wf _ _ _ _ hI b h1
        · exact wf _ _ _ _ hm.2 b h1
      · omega
      · omega
    · rintro i g OJ hh h' ⟨O1, e, n1, n2, hsub, hs, hdf, hm⟩ md
      have md' : Mod (fun b => ¬ O1 b ∧ h.size ≤ b) hh h' := md.weak fun b _ hb => ⟨fun h1 => hb.1 ((e b).2 (.inl h1)), by omega⟩
      have k1 : h'[h.size]? = hh[h.size]? := md.get _ (by omega) fun hb => hb.1 ((e _).2 (.inr (.inl rfl)))
      have k2 : h'[h.size + 1]? = hh[h.size + 1]? := md.get _ (by omega) fun hb => hb.1 ((e _).2 (.inr (.inr rfl)))
      refine ⟨O1, e, n1, n2, hsub, by have := md.size; omega, k1.trans hdf, ?_⟩
      cases g
      · obtain ⟨j, rec', h1, h2, h3, hI⟩ := hm
        exact ⟨j, rec', k2.trans h1, h2, h3, stable _ _ _ _ _ hI md'⟩
      · exact ⟨k2.trans hm.1, stable _ _ _ _ _ hm.2 md'⟩
  · rintro i x OJ hh hi ⟨O1, e, n1, n2, hsub, hs, hdf, hl, hI⟩
    refine hy (arg1 x) hh _ hl (round i x O1 hh rec _ _ hi hI n2 (by omega) hl hst ?_ ?_)
    · rintro h' ⟨O', hO', md, hl', hI'⟩
      have hl1 : h.size + 1 < h'.size := by have := md.size; omega
      refine ⟨_, hl', true, fun b => O' b ∨ b = h.size ∨ b = h.size + 1, rfl, ?_, ?_, O', fun _ => Iff.rfl, ?_, ?_, ?_, ?_, ?_, ?_, ?_⟩
      · rintro b (hb | hb)
        · rcases hO' b hb with h1 | h1
          · exact .inl ((e b).2 (.inl h1))
          · exact .inr h1
        · exact .inl ((e b).2 (.inr hb))
      · refine (md.trans (Mod.setObj (.inr rfl))).weak fun b _ hb => (e b).2 (hb.elim .inl fun h1 => .inr (.inr h1))
      · intro h1; rcases hO' _ h1 with h2 | h2
        · exact n1 h2
        · omega
      · intro h1; rcases hO' _ h1 with h2 | h2
        · exact n2 h2
        · omega
      · intro b hb; rcases hO' _ hb with h2 | h2
        · exact hsub _ h2
        · exact .inr (by omega)
      · simp; omega
      · rw [Array.getElem?_setIfInBounds_ne (by omega)]
        exact (md.get _ (by omega) (by rintro (h1 | h1); exact n1 h1; omega)).trans hdf
      · rw [setObj_self hl1]; cases rec; simp at hst hpd; simp [hst, hpd]
      · refine stable _ _ _ _ _ hI' (Mod.setObj ⟨?_, by omega⟩)
        intro h1; rcases hO' _ h1 with h2 | h2
        · exact n2 h2
        · omega
    · rintro j h' ⟨O', hO', md, hl', hI'⟩
      have hl1 : h.size + 1 < h'.size := by have := md.size; omega
      refine ⟨_, hl', false, fun b => O' b ∨ b = h.size ∨ b = h.size + 1, rfl, ?_, ?_, O', fun _ => Iff.rfl, ?_, ?_, ?_, ?_, ?_, j, { rec with state := .done, pending := some (jumpOf j) }, ?_, ?_, rfl, ?_⟩
      · rintro b (hb | hb)
        · rcases hO' b hb with h1 | h1
          · exact .inl ((e b).2 (.inl h1))
          · exact .inr h1
        · exact .inl ((e b).2 (.inr hb))
      · refine (md.trans (Mod.setObj (.inr rfl))).weak fun b _ hb => (e b).2 (hb.elim .inl fun h1 => .inr (.inr h1))
      · intro h1; rcases hO' _ h1 with h2 | h2
        · exact n1 h2
        · omega
      · intro h1; rcases hO' _ h1 with h2 | h2
        · exact n2 h2
        · omega
      · intro b hb; rcases hO' _ hb with h2 | h2
        · exact hsub _ h2
        · exact .inr (by omega)
      · simp; omega
      · rw [Array.getElem?_setIfInBounds_ne (by omega)]
        exact (md.get _ (by omega) (by rintro (h1 | h1); exact n1 h1; omega)).trans hdf
      · exact setObj_self hl1
      · simp
      · refine stable _ _ _ _ _ hI' (Mod.setObj ⟨?_, by omega⟩)
        intro h1; rcases hO' _ h1 with h2 | h2
        · exact n2 h2
        · omega
  · refine ⟨O, fun _ => Iff.rfl, fun h1 => ?_, fun h1 => ?_, fun b hb => .inl hb, by omega, ?_, ?_⟩
    rotate_left 2
    · rw [Array.getElem?_push_lt (by simp)]; simp
    · exact ⟨by have h9 : h.size + 1 = (h.push (.deferred (some []))).size := by simp
                rw [h9]; exact Array.getElem?_push_size, stable _ _ _ _ _ init hext.mod⟩
    · have := hOlt _ h1; omega
    · have := hOlt _ h1; omega
  · rintro v h2 ⟨_, i, g, OJ, md, hsb, ⟨O1, e, n1, n2, hsub, hs, hdf, hm⟩, hg, hil⟩
    have mdall : ∀ rec2, Mod O h (h2.setIfInBounds (h.size + 1) (.loop rec2)) := fun rec2 => by
      refine ⟨by simp; omega, fun b hb hn => ?_⟩
      rw [Array.getElem?_setIfInBounds_ne (by omega)]
      exact (md.get b (by omega) (by rintro (h1 | h1 | h1); exact hn h1; omega; omega)).trans (hext.get b hb (by simp))
    have hdf2 : ∀ rec2, (h2.setIfInBounds (h.size + 1) (.loop rec2))[h.size]? = some (.deferred (some [])) := fun rec2 => by
      rw [Array.getElem?_setIfInBounds_ne (by omega)]; exact hdf
    cases g
    · obtain ⟨j, rec', h1, h3, h4, hI⟩ := hm
      exact ⟨rec', h1, h3, .inr ⟨j, h4, finj i j O1 _ (stable _ _ _ _ _ hI (Mod.setObj ⟨n2, by omega⟩)) hil (mdall _) n1 hsub (hdf2 _)⟩⟩
    · refine ⟨rec, hm.1, by simp [hst], .inl ⟨hpd, fin O1 _ ?_ (mdall _) n1 hsub (hdf2 _)⟩⟩
      have := hg rfl
      subst this
      exact stable _ _ _ _ _ hm.2 (Mod.setObj ⟨n2, by omega⟩)
end Go.Lf
