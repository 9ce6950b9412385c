/-
  Contracts: the box (chapter 3): its state in memory; its small methods; Append, Sync, Read, Delete.
-/
import Derived.Test.YtcaiammecilkeaaLfU4ToW1
import Derived.Test.YtcaiammecilkeaaLfU11ToU3
import Derived.Test.YtcaiammecilkeaaLfU7ToU10
import Derived.Maps.RangeRun
import Derived.Test.YtcaiammecilkeaaLfV4ToV7
set_option maxRecDepth 100000
set_option linter.unusedVariables false
set_option linter.unusedSimpArgs false
namespace Go.Lf.G
open Go

theorem LoadM.mk {h : Heap} {a : Addr} {K : Option Nat → Prop} {n : Option Nat} (hv : hget h a = some (.map n)) (H : K n) : LoadM h a K := ⟨n, hv, H⟩
theorem P_mpf : P.underlying t_map_string_p_box_file = some (.map t_string t_p_box_file) := by kernel_rfl
theorem P_zpf : (zeroValue t_p_box_file).calc P = some (.pointer none) := by kernel_rfl

abbrev kvM (kv : List (Fi × Nat)) : List (ByteArray × Value) := kv.map fun p => (p.1.name, ptrV p.2)

structure BoxAt (h : Heap) (b r : Nat) (kv : List (Fi × Nat)) (m : Bx) : Prop where
  head : h[b]? = some (.cells #[.map (some r), .int .i64 m.fuel, .bool m.down] t_box_Box (0, 0))
  map : MapS h r (kvM kv)
  cells : ∀ p ∈ kv, h[p.2]? = some (.cells #[.string p.1.firm, .string p.1.soft] t_box_file (0, 0))
  perm : (kv.map (·.1)).Perm m.files
  nodup : (kv.map (·.2)).Nodup
  good : GoodB m

def footB (b r : Nat) (kv : List (Fi × Nat)) (c : Nat) : Prop := c = b ∨ c = r ∨ ∃ p ∈ kv, p.2 = c
def IsBox (h : Heap) (b : Nat) (S : Nat → Prop) (m : Bx) : Prop := ∃ r kv, BoxAt h b r kv m ∧ ∀ c, S c ↔ footB b r kv c

theorem BoxAt.ne_br {h : Heap} {b r : Nat} {kv : List (Fi × Nat)} {m : Bx} (B : BoxAt h b r kv m) : r ≠ b := by
  rintro rfl
  obtain ⟨es, cl, hr, _⟩ := B.map
  rw [B.head] at hr; cases hr
theorem BoxAt.ne_pb {h : Heap} {b r : Nat} {kv : List (Fi × Nat)} {m : Bx} (B : BoxAt h b r kv m) {p : Fi × Nat} (hp : p ∈ kv) : p.2 ≠ b ∧ p.2 ≠ r := by
  have h1 := B.cells p hp
  constructor
  · intro e; rw [e, B.head] at h1; cases h1
  · intro e
    obtain ⟨es, cl, hr, _⟩ := B.map
    rw [e, hr] at h1; cases h1
theorem BoxAt.lt {h : Heap} {b r : Nat} {kv : List (Fi × Nat)} {m : Bx} (B : BoxAt h b r kv m) {c : Nat} (hc : footB b r kv c) : c < h.size := by
  rcases hc with rfl | rfl | ⟨p, hp, rfl⟩
  · exact blk_lt B.head
  · exact B.map.lt
  · exact blk_lt (B.cells p hp)
theorem IsBox.lt {h : Heap} {b : Nat} {S : Nat → Prop} {m : Bx} (B : IsBox h b S m) {c : Nat} (hc : S c) : c < h.size := by
  obtain ⟨r, kv, B, hS⟩ := B
  exact B.lt ((hS c).1 hc)
theorem IsBox.good {h : Heap} {b : Nat} {S : Nat → Prop} {m : Bx} (B : IsBox h b S m) : GoodB m := by
  obtain ⟨r, kv, B, hS⟩ := B; exact B.good
theorem IsBox.self {h : Heap} {b : Nat} {S : Nat → Prop} {m : Bx} (B : IsBox h b S m) : S b := by
  obtain ⟨r, kv, B, hS⟩ := B; exact (hS b).2 (.inl rfl)
theorem BoxAt.mod {h h' : Heap} {b r : Nat} {kv : List (Fi × Nat)} {m : Bx} {T : Nat → Prop} (B : BoxAt h b r kv m) (x : Mod T h h') (hT : ∀ c, footB b r kv c → ¬ T c) : BoxAt h' b r kv m :=
  ⟨x.blk B.head (hT _ (.inl rfl)), B.map.mod x (hT _ (.inr (.inl rfl))), fun p hp => x.blk (B.cells p hp) (hT _ (.inr (.inr ⟨p, hp, rfl⟩))), B.perm, B.nodup, B.good⟩
theorem IsBox.mod {h h' : Heap} {b : Nat} {S T : Nat → Prop} {m : Bx} (B : IsBox h b S m) (x : Mod T h h') (hT : ∀ c, S c → ¬ T c) : IsBox h' b S m := by
  obtain ⟨r, kv, B, hS⟩ := B
  exact ⟨r, kv, B.mod x fun c hc => hT c ((hS c).2 hc), hS⟩
theorem IsBox.ext {h h' : Heap} {b : Nat} {S : Nat → Prop} {m : Bx} (B : IsBox h b S m) (x : Ext h h') : IsBox h' b S m := B.mod x fun _ _ h => h
theorem BoxAt.hd {h h' : Heap} {b r : Nat} {kv : List (Fi × Nat)} {m m' : Bx} (B : BoxAt h b r kv m) (hb : h'[b]? = some (.cells #[.map (some r), .int .i64 m'.fuel, .bool m'.down] t_box_Box (0, 0))) (x : Mod (· = b) h h') (hf : m'.files = m.files) (g : GoodB m') : BoxAt h' b r kv m' :=
  ⟨hb, B.map.mod x B.ne_br, fun p hp => x.blk (B.cells p hp) (B.ne_pb hp).1, by rw [hf]; exact B.perm, B.nodup, g⟩

/-! ### names -/
theorem look_kv (k : ByteArray) : ∀ kv : List (Fi × Nat), lookM k (kvM kv) = (kv.find? fun p => decide (p.1.name = k)).map fun p => ptrV p.2
  | [] => rfl
  | p :: kv => by
    show lookM k ((p.1.name, ptrV p.2) :: kvM kv) = _
    rw [lookM_cons, look_kv k kv, List.find?_cons]
    by_cases h : p.1.name = k <;> simp [h]
theorem BoxAt.mem {h : Heap} {b r : Nat} {kv : List (Fi × Nat)} {m : Bx} (B : BoxAt h b r kv m) {f : Fi} : f ∈ m.files ↔ ∃ c, (f, c) ∈ kv := by
  rw [← B.perm.mem_iff]
  constructor
  · intro h; obtain ⟨p, hp, rfl⟩ := List.mem_map.1 h; exact ⟨p.2, hp⟩
  · rintro ⟨c, hc⟩; exact List.mem_map.2 ⟨_, hc, rfl⟩
theorem BoxAt.look {h : Heap} {b r : Nat} {kv : List (Fi × Nat)} {m : Bx} (B : BoxAt h b r kv m) (k : ByteArray) :
    (lookM k (kvM kv) = none ∧ findF k m.files = none) ∨ ∃ p ∈ kv, lookM k (kvM kv) = some (ptrV p.2) ∧ findF k m.files = some p.1 ∧ p.1.name = k := by
  rw [look_kv]
  cases hf : kv.find? fun p => decide (p.1.name = k) with
  | none =>
    refine .inl ⟨rfl, findF_none' fun f hm => ?_⟩
    obtain ⟨c, hc⟩ := B.mem.1 hm
    rw [List.find?_eq_none] at hf
    simpa using hf _ hc
  | some p =>
    have h1 : p.1.name = k := by simpa using List.find?_some hf
    have h2 := List.mem_of_find?_eq_some hf
    refine .inr ⟨p, h2, rfl, ?_, h1⟩
    rw [← h1]
    exact B.good.sorted.find (B.mem.2 ⟨p.2, h2⟩)
theorem SortedF.uniq {l : List Fi} (s : SortedF l) {x y : Fi} (hx : x ∈ l) (hy : y ∈ l) (h : x.name = y.name) : x = y := by
  have h1 := s.find hx
  rw [h, s.find hy] at h1
  exact (Option.some.inj h1).symm
theorem names_nodup {kv : List (Fi × Nat)} {l : List Fi} (p : (kv.map (·.1)).Perm l) (s : SortedF l) : (kv.map fun q => q.1.name).Nodup := by
  have h1 : (l.map (·.name)).Nodup := by
    refine List.pairwise_map.2 (s.imp fun h => lt_ne h)
  have h2 : (kv.map fun q => q.1.name).Perm (l.map (·.name)) := by
    have := p.map (·.name)
    simpa [List.map_map, Function.comp_def] using this
  exact (h2.nodup_iff).2 h1
theorem BoxAt.inj {h : Heap} {b r : Nat} {kv : List (Fi × Nat)} {m : Bx} (B : BoxAt h b r kv m) {p q : Fi × Nat} (hp : p ∈ kv) (hq : q ∈ kv) (e : p.1.name = q.1.name) : p = q := by
  have hn := names_nodup B.perm B.good.sorted
  obtain ⟨i, hi, rfl⟩ := List.getElem_of_mem hp
  obtain ⟨j, hj, rfl⟩ := List.getElem_of_mem hq
  have : i = j := by
    have hi' : i < (kv.map fun q => q.1.name).length := by simpa using hi
    have hj' : j < (kv.map fun q => q.1.name).length := by simpa using hj
    refine (List.getElem_inj (h₀ := hi') (h₁ := hj') hn).1 ?_
    simpa using e
  subst this; rfl

/-- a file's cells have changed -/
theorem BoxAt.set {h h' : Heap} {b r : Nat} {kv : List (Fi × Nat)} {m : Bx} (B : BoxAt h b r kv m) {p : Fi × Nat} (hp : p ∈ kv) {g : Fi → Fi} (hg : ∀ f, (g f).name = f.name)
    (hc : h'[p.2]? = some (.cells #[.string (g p.1).firm, .string (g p.1).soft] t_box_file (0, 0))) (x : Mod (· = p.2) h h') (gd : GoodB { m with files := updF p.1.name g m.files }) :
    BoxAt h' b r (kv.map fun q => (if q.1.name = p.1.name then g q.1 else q.1, q.2)) { m with files := updF p.1.name g m.files } := by
  refine ⟨x.blk B.head (B.ne_pb hp).1.symm, ?_, ?_, ?_, ?_, gd⟩
  · have e : kvM (kv.map fun q => (if q.1.name = p.1.name then g q.1 else q.1, q.2)) = kvM kv := by
      simp only [kvM, List.map_map]
      refine List.map_congr_left fun q _ => ?_
      simp only [Function.comp]
      split <;> simp [hg]
    rw [e]
    exact B.map.mod x (B.ne_pb hp).2.symm
  · intro q hq
    obtain ⟨q', hq', rfl⟩ := List.mem_map.1 hq
    simp only
    by_cases e : q'.1.name = p.1.name
    · rw [if_pos e]
      have := B.inj hq' hp e
      subst this
      exact hc
    · rw [if_neg e]
      refine x.blk (B.cells q' hq') fun e2 => e ?_
      have hn := B.nodup
      obtain ⟨i, hi, rfl⟩ := List.getElem_of_mem hp
      obtain ⟨j, hj, rfl⟩ := List.getElem_of_mem hq'
      have : j = i := by
        have hi' : i < (kv.map (·.2)).length := by simpa using hi
        have hj' : j < (kv.map (·.2)).length := by simpa using hj
        refine (List.getElem_inj (h₀ := hj') (h₁ := hi') hn).1 ?_
        simpa using e2
      subst this; rfl
  · have h1 := B.perm.map fun f => if f.name = p.1.name then g f else f
    simpa [updF, List.map_map, Function.comp_def] using h1
  · simpa [List.map_map, Function.comp_def] using B.nodup
theorem foot_set {b r : Nat} {kv : List (Fi × Nat)} {g : Fi × Nat → Fi} (c : Nat) : footB b r (kv.map fun q => (g q, q.2)) c ↔ footB b r kv c := by
  unfold footB
  constructor
  · rintro (h | h | ⟨p, hp, rfl⟩)
    · exact .inl h
    · exact .inr (.inl h)
    · obtain ⟨q, hq, rfl⟩ := List.mem_map.1 hp
      exact .inr (.inr ⟨q, hq, rfl⟩)
  · rintro (h | h | ⟨p, hp, rfl⟩)
    · exact .inl h
    · exact .inr (.inl h)
    · exact .inr (.inr ⟨_, List.mem_map.2 ⟨p, hp, rfl⟩, rfl⟩)

theorem updM_new {k : ByteArray} {v : Value} : ∀ {m : List (ByteArray × Value)}, lookM k m = none → updM k v m = m ++ [(k, v)]
  | [], _ => rfl
  | p :: m, h => by
    rw [lookM_cons] at h
    split at h
    · cases h
    · rename_i hk
      unfold updM
      rw [if_neg hk, updM_new h]; rfl

/-! ### the small methods -/
theorem off_ok {A : Amb} {h : Heap} {b : Nat} {c0 c1 : Value} {down : Bool} {T : TypeId} {R : Value → Heap → Prop} (hb : h[b]? = some (.cells #[c0, c1, .bool down] T (0, 0))) (H : R (.bool down) h) :
    HCalls A P f_box_Box_off #[ptrV b] h R := by
  refine ok_box_Box_off ?_
  unfold F_box_Box_off
  exact PIf.no rfl (atI (LoadB.mk (hget_lit1 hb rfl) H))
theorem off_nil {A : Amb} {h : Heap} {R : Value → Heap → Prop} (H : R (.bool true) h) : HCalls A P f_box_Box_off #[.pointer none] h R := by
  refine ok_box_Box_off ?_
  unfold F_box_Box_off
  exact PIf.yes rfl H
theorem wrong_ok {A : Amb} {h : Heap} {name : ByteArray} {R : Value → Heap → Prop} (H : R (.bool (badName name)) h) : HCalls A P f_box_wrong #[.string name] h R := by
  refine ok_box_wrong ?_
  unfold F_box_wrong
  unfold badName at H
  rw [sEq_iff]
  refine PIf.intro (fun hq => ?_) (fun hq => ?_)
  · rw [hq] at H; exact H
  · rw [hq] at H
    have e : decide ((name.size : Int) > (32 : Int)) = decide (name.size > 32) := by rw [decide_eq_decide]; omega
    rw [e]; simpa using H

def burnF (fuel : Int) : Int := if fuel > 0 then fuel - 1 else fuel
theorem burn_ok {A : Amb} {h : Heap} {b : Nat} {c0 : Value} {fuel : Int} {down : Bool} {T : TypeId} {R : Value → Heap → Prop} (hb : h[b]? = some (.cells #[c0, .int .i64 fuel, .bool down] T (0, 0))) (lo : -1 ≤ fuel) (hi : fuel ≤ 9223372036854775807)
    (H1 : fuel = 0 → ∀ h', h'[b]? = some (.cells #[c0, .int .i64 fuel, .bool true] T (0, 0)) → Mod (· = b) h h' → h'.size = h.size → R (.bool false) h')
    (H2 : fuel ≠ 0 → ∀ h', h'[b]? = some (.cells #[c0, .int .i64 (burnF fuel), .bool down] T (0, 0)) → Mod (· = b) h h' → h'.size = h.size → R (.bool true) h') : HCalls A P f_box_Box_burn #[ptrV b] h R := by
  refine ok_box_Box_burn ?_
  unfold F_box_Box_burn
  refine atI (LoadI.mk (hget_lit1 hb rfl) ?_)
  refine PIf.intro (fun hq => ?_) (fun hq => ?_)
  · refine atI (Store.mk1 hb (by simp) fun h1 hb1 m1 hs1 => ?_)
    exact H1 (by simpa using hq) h1 (by simpa using hb1) m1 hs1
  · have hq : fuel ≠ 0 := by simpa using hq
    have H2 := H2 hq
    unfold burnF at H2
    refine Join.mk fun K hK => ?_
    refine atI (LoadI.mk (hget_lit1 hb rfl) ?_)
    refine PIf.intro (fun hq => ?_) (fun hq => ?_)
    · have hp : fuel > 0 := by simpa using hq
      rw [if_pos hp] at H2
      refine atI (LoadI.mk (hget_lit1 hb rfl) (atI (Store.mk1 hb (by simp) fun h1 hb1 m1 hs1 => hK _ _ ?_)))
      rw [wrap_i64 (by omega) (by omega)] at hb1
      exact H2 h1 (by simpa using hb1) m1 hs1
    · have hp : ¬ fuel > 0 := by simpa using hq
      rw [if_neg hp] at H2
      exact hK _ _ (H2 h hb Mod.refl rfl)

theorem tick_fuel (m : Bx) : (tickB m).fuel = burnF m.fuel ∧ (tickB m).down = m.down ∧ (tickB m).files = m.files := by
  unfold tickB burnF; split <;> simp
theorem goodB_tick {m : Bx} (g : GoodB m) : GoodB (tickB m) := by
  have := g.tick m.files g.sorted g.names g.wt
  rwa [← (tick_fuel m).2.2] at this
theorem BoxAt.burn {A : Amb} {h : Heap} {b r : Nat} {kv : List (Fi × Nat)} {m : Bx} (B : BoxAt h b r kv m) {R : Value → Heap → Prop}
    (H1 : m.fuel = 0 → ∀ h', BoxAt h' b r kv (offB m) → Mod (footB b r kv) h h' → R (.bool false) h')
    (H2 : m.fuel ≠ 0 → ∀ h', BoxAt h' b r kv (tickB m) → Mod (footB b r kv) h h' → h'.size = h.size → R (.bool true) h') : HCalls A P f_box_Box_burn #[ptrV b] h R := by
  refine burn_ok B.head B.good.lo B.good.hi (fun hz h1 hb1 m1 hs1 => ?_) (fun hz h1 hb1 m1 hs1 => ?_)
  · exact H1 hz h1 (B.hd hb1 m1 rfl B.good.off) (m1.weak fun c _ hc => .inl hc)
  · obtain ⟨e1, e2, e3⟩ := tick_fuel m
    refine H2 hz h1 (B.hd ?_ m1 e3 (goodB_tick B.good)) (m1.weak fun c _ hc => .inl hc) hs1
    rw [e1, e2]; exact hb1

/-! ### Append -/
theorem BoxAt.putSoft {h : Heap} {b r : Nat} {kv : List (Fi × Nat)} {m : Bx} (B : BoxAt h b r kv m) {p : Fi × Nat} (hp : p ∈ kv) {data : ByteArray} (gd : GoodB { m with files := updF p.1.name (addF data) m.files }) {K : Heap → Prop}
    (H : ∀ h' kv', BoxAt h' b r kv' { m with files := updF p.1.name (addF data) m.files } → Mod (footB b r kv) h h' → (∀ c, footB b r kv' c ↔ footB b r kv c) → K h') :
    At (some ⟨p.2, 0, none⟩) fun a1 => LoadS h (a1.add 1) fun t => Chk (((t.size + data.size : Nat) : Int) ≤ IntKind.i64.max) <| At (some ⟨p.2, 0, none⟩) fun a2 => Store h (a2.add 1) (.string (t ++ data)) K := by
  have hc := B.cells p hp
  refine atI (LoadS.mk (hget_lit1 hc rfl) ⟨?_, atI (Store.mk1 hc (by simp) fun h1 hb1 m1 hs1 => ?_)⟩)
  · have h1 : wtF (updF p.1.name (addF data) m.files) ≤ 1099511627776 := gd.wt
    have h2 : addF data p.1 ∈ updF p.1.name (addF data) m.files := by
      refine List.mem_map.2 ⟨p.1, B.mem.2 ⟨p.2, hp⟩, by simp⟩
    have h3 := wtF_mem h2
    simp only [addF, size_app] at h3
    simp [IntKind.max, IntKind.bits, IntKind.signed]
    omega
  · exact H h1 _ (B.set hp (g := addF data) (fun _ => rfl) (by simpa [addF] using hb1) m1 gd) (m1.weak fun c _ hc => .inr (.inr ⟨p, hp, hc.symm⟩)) (fun c => foot_set (g := fun q => if q.1.name = p.1.name then addF data q.1 else q.1) c)

theorem bAppend_ok {A : Amb} {h : Heap} {b : Nat} {S : Nat → Prop} {m : Bx} {name data : ByteArray} {R : Value → Heap → Prop} (B : IsBox h b S m) (hw : wtF m.files + data.size + 1 ≤ 1099511627776)
    (H : ∀ h' S', IsBox h' b S' (appendB m name data).2 → Mod S h h' → (∀ c, S' c → S c ∨ h.size ≤ c) → R (.int .i64 (appendB m name data).1) h') : HCalls A P f_box_Box_Append #[ptrV b, .string name, .string data] h R := by
  have hgood := B.good.append (name := name) (data := data) hw
  obtain ⟨r, kv, B, hS⟩ := B
  refine ok_box_Box_Append ?_
  unfold F_box_Box_Append
  refine off_ok B.head ⟨_, rfl, ?_⟩
  unfold appendB at H hgood
  refine PIf.intro (fun hd => ?_) (fun hd => ?_)
  · rw [if_pos hd] at H; exact H h S ⟨r, kv, B, hS⟩ Mod.refl (fun c hc => .inl hc)
  rw [if_neg (by simp [hd])] at H hgood
  refine wrong_ok ⟨_, rfl, ?_⟩
  refine PIf.intro (fun hn => ?_) (fun hn => ?_)
  · rw [if_pos hn] at H; exact H h S ⟨r, kv, B, hS⟩ Mod.refl (fun c hc => .inl hc)
  rw [if_neg (by simp [hn])] at H hgood
  have hmS : ∀ {h1 : Heap}, Mod (footB b r kv) h h1 → Mod S h h1 := fun m1 => m1.weak fun c _ hc => (hS c).2 hc
  refine B.burn (fun hz h1 B1 m1 => ⟨_, rfl, ?_⟩) (fun hz h1 B1 m1 hs1 => ⟨_, rfl, ?_⟩)
  · rw [if_pos hz] at H
    exact PIf.yes rfl (H h1 S ⟨r, kv, B1, hS⟩ (hmS m1) (fun c hc => .inl hc))
  rw [if_neg hz] at H hgood
  refine PIf.no rfl ?_
  refine atI (LoadM.mk (hget_lit B1.head rfl) (lookup_ok P_mpf P_str P_zpf B1.map ?_))
  rcases B1.look name with ⟨k1, k2⟩ | ⟨p, hp, k1, k2, k3⟩
  · -- a new file
    rw [k1]
    refine ⟨none, rfl, Join.mk fun K hK => PIf.yes rfl ?_⟩
    refine New.mk fun h2 _ hb2 x2 hs2 => ?_
    have B2 := B1.mod x2 (fun _ _ h => h)
    refine atI (LoadM.mk (hget_lit B2.head rfl) ?_)
    have hsz : name.size ≤ 32 := by simp [badName] at hn; omega
    have hlen := wtF_len (tickB m).files
    have hkl : kv.length = (tickB m).files.length := by rw [← B1.perm.length_eq]; simp
    rw [(tick_fuel m).2.2] at hkl
    have hl2 := wtF_len m.files
    refine update_ok P_mpf P_str B2.map (by simp [maxLen]; omega) (by simp [kvM, maxLen]; omega) fun h3 M3 m3 hs3 => ?_
    rw [updM_new k1] at M3
    have hb3 := m3.blk hb2 (by have := B1.map.lt; omega)
    have kf := k2
    rw [(tick_fuel m).2.2] at kf
    have hhave : haveF name m.files = insF ⟨name, bs0, bs0⟩ m.files := by unfold haveF; rw [kf]; rfl
    have hn2 := findF_none kf
    have hws := wtF_ins ⟨name, bs0, bs0⟩ m.files
    simp only [sz0] at hws
    have B3 : BoxAt h3 b r (kv ++ [(⟨name, bs0, bs0⟩, h1.size)]) { tickB m with files := insF ⟨name, bs0, bs0⟩ m.files } := by
      refine ⟨m3.blk B2.head B2.ne_br.symm, ?_, ?_, ?_, ?_, ?_⟩
      · rw [kvM, List.map_append]; exact M3
      · intro p hp
        rcases List.mem_append.1 hp with hp | hp
        · exact m3.blk (B2.cells p hp) (B2.ne_pb hp).2
        · simp at hp; subst hp; exact hb3
      · rw [List.map_append]
        refine (List.perm_append_singleton _ _).trans (((B1.perm.trans (List.Perm.of_eq (tick_fuel m).2.2)).cons _).trans (insF_perm _ _).symm)
      · rw [List.map_append]
        refine List.nodup_append.2 ⟨B1.nodup, by simp, ?_⟩
        intro a ha c hc
        obtain ⟨p, hp, rfl⟩ := List.mem_map.1 ha
        simp at hc; subst hc
        have := blk_lt (B1.cells p hp); omega
      · refine B.good.tick _ (insF_sorted B.good.sorted hn2) (fun f hf => ?_) (by omega)
        rcases List.mem_cons.1 ((insF_perm _ _).subset hf) with rfl | hf
        · exact hsz
        · exact B.good.names f hf
    refine hK _ _ ?_
    rw [hhave] at H hgood
    refine B3.putSoft (p := (⟨name, bs0, bs0⟩, h1.size)) (by simp) (data := data) hgood fun h4 kv4 B4 m4 e4 => ?_
    have hf4 : ∀ c, footB b r kv4 c → footB b r kv c ∨ h.size ≤ c := fun c hc => by
      rcases (e4 c).1 hc with h | h | ⟨p, hp, rfl⟩
      · exact .inl (.inl h)
      · exact .inl (.inr (.inl h))
      · rcases List.mem_append.1 hp with hp | hp
        · exact .inl (.inr (.inr ⟨p, hp, rfl⟩))
        · simp at hp; subst hp; exact .inr (by have := m1.size; simpa using this)
    refine H h4 (footB b r kv4) ⟨r, kv4, B4, fun _ => Iff.rfl⟩ ?_ (fun c hc => (hf4 c hc).imp (hS c).2 id)
    have m13 : Mod (footB b r kv) h1 h3 := x2.mod.trans (m3.weak fun c _ hc => .inr (.inl hc))
    refine hmS ((m1.trans m13).then (m4.weak fun c _ hc => hf4 c ((e4 c).2 hc)))
  · -- a file that is there
    rw [k1]
    refine ⟨some ⟨p.2, 0, none⟩, rfl, Join.mk fun K hK => PIf.no rfl (hK _ _ ?_)⟩
    have kf := k2
    rw [(tick_fuel m).2.2] at kf
    have hhave : haveF name m.files = m.files := by unfold haveF; rw [kf]; rfl
    rw [hhave] at H hgood
    subst k3
    have e3 := (tick_fuel m).2.2
    refine B1.putSoft hp (data := data) (by rw [e3]; exact hgood) fun h4 kv4 B4 m4 e4 => ?_
    refine H h4 S ⟨r, kv4, by rw [e3] at B4; exact B4, fun c => (hS c).trans (e4 c).symm⟩ (hmS (m1.trans m4)) (fun c hc => .inl hc)

/-! ### Sync -/
theorem bSync_ok {A : Amb} {h : Heap} {b : Nat} {S : Nat → Prop} {m : Bx} {name : ByteArray} {R : Value → Heap → Prop} (B : IsBox h b S m)
    (H : ∀ h', IsBox h' b S (syncB m name).2 → Mod S h h' → R (.int .i64 (syncB m name).1) h') : HCalls A P f_box_Box_Sync #[ptrV b, .string name] h R := by
  have hgood := B.good.sync (name := name)
  obtain ⟨r, kv, B, hS⟩ := B
  refine ok_box_Box_Sync ?_
  unfold F_box_Box_Sync
  refine off_ok B.head ⟨_, rfl, ?_⟩
  unfold syncB at H hgood
  have hmS : ∀ {h1 : Heap}, Mod (footB b r kv) h h1 → Mod S h h1 := fun m1 => m1.weak fun c _ hc => (hS c).2 hc
  refine PIf.intro (fun hd => ?_) (fun hd => ?_)
  · rw [if_pos hd] at H; exact H h ⟨r, kv, B, hS⟩ Mod.refl
  rw [if_neg (by simp [hd])] at H hgood
  refine atI (LoadM.mk (hget_lit B.head rfl) (lookup_ok P_mpf P_str P_zpf B.map ?_))
  rcases B.look name with ⟨k1, k2⟩ | ⟨p, hp, k1, k2, k3⟩
  · rw [k1]
    rw [k2] at H
    exact ⟨none, rfl, PIf.yes rfl (H h ⟨r, kv, B, hS⟩ Mod.refl)⟩
  rw [k1]
  rw [k2, if_neg (by simp)] at H hgood
  refine ⟨some ⟨p.2, 0, none⟩, rfl, PIf.no rfl ?_⟩
  refine B.burn (fun hz h1 B1 m1 => ⟨_, rfl, ?_⟩) (fun hz h1 B1 m1 hs1 => ⟨_, rfl, ?_⟩)
  · rw [if_pos hz] at H
    exact PIf.yes rfl (H h1 ⟨r, kv, B1, hS⟩ (hmS m1))
  rw [if_neg hz] at H hgood
  refine PIf.no rfl ?_
  refine atI (LoadM.mk (hget_lit B1.head rfl) (lookup_ok P_mpf P_str P_zpf B1.map ?_))
  rw [k1]
  refine ⟨some ⟨p.2, 0, none⟩, rfl, ?_⟩
  have hc := B1.cells p hp
  refine atI (LoadS.mk (hget_lit hc rfl) (atI (LoadS.mk (hget_lit1 hc rfl) ⟨?_, ?_⟩)))
  · have h3 := wtF_mem (findF_some k2).2
    have := B.good.wt
    simp [IntKind.max, IntKind.bits, IntKind.signed]; omega
  refine atI (Store.mk hc (by simp) fun h2 hb2 m2 hs2 => atI (Store.mk1 hb2 (by simp) fun h3 hb3 m3 hs3 => ?_))
  subst k3
  have e3 := (tick_fuel m).2.2
  have B3 := B1.set hp (h' := h3) (g := firmF) (fun _ => rfl) (by simpa [firmF] using hb3) (m2.trans m3) (by rw [e3]; exact hgood)
  rw [e3] at B3
  refine H h3 ⟨r, _, B3, fun c => (hS c).trans (foot_set (g := fun q => if q.1.name = p.1.name then firmF q.1 else q.1) c).symm⟩ (hmS (m1.trans ((m2.trans m3).weak fun c _ hc => .inr (.inr ⟨p, hp, hc.symm⟩))))

/-! ### Read -/
theorem bRead_ok {A : Amb} {h : Heap} {b : Nat} {S : Nat → Prop} {m : Bx} {name : ByteArray} {R : Value → Heap → Prop} (B : IsBox h b S m)
    (H : R (.tuple #[.string (readB m name).1, .int .i64 (readB m name).2]) h) : HCalls A P f_box_Box_Read #[ptrV b, .string name] h R := by
  obtain ⟨r, kv, B, hS⟩ := B
  refine ok_box_Box_Read ?_
  unfold F_box_Box_Read
  refine off_ok B.head ⟨_, rfl, ?_⟩
  unfold readB at H
  refine PIf.intro (fun hd => ?_) (fun hd => ?_)
  · rw [if_pos hd] at H; exact H
  rw [if_neg (by simp [hd])] at H
  refine atI (LoadM.mk (hget_lit B.head rfl) (lookup_ok P_mpf P_str P_zpf B.map ?_))
  rcases B.look name with ⟨k1, k2⟩ | ⟨p, hp, k1, k2, k3⟩
  · rw [k1]
    rw [k2] at H
    exact ⟨none, rfl, PIf.yes rfl H⟩
  rw [k1]
  rw [k2] at H
  refine ⟨some ⟨p.2, 0, none⟩, rfl, PIf.no rfl ?_⟩
  have hc := B.cells p hp
  refine atI (LoadS.mk (hget_lit hc rfl) (atI (LoadS.mk (hget_lit1 hc rfl) ⟨?_, H⟩)))
  have h3 := wtF_mem (findF_some k2).2
  have := B.good.wt
  simp [IntKind.max, IntKind.bits, IntKind.signed]; omega

/-! ### Delete -/
theorem delM_kv (k : ByteArray) (kv : List (Fi × Nat)) : delM k (kvM kv) = kvM (kv.filter fun p => !decide (p.1.name = k)) := by
  unfold delM kvM
  rw [List.filter_map]; rfl
theorem bDelete_ok {A : Amb} {h : Heap} {b : Nat} {S : Nat → Prop} {m : Bx} {name : ByteArray} {R : Value → Heap → Prop} (B : IsBox h b S m)
    (H : ∀ h' S', IsBox h' b S' (deleteB m name).2 → Mod S h h' → (∀ c, S' c → S c) → R (.int .i64 (deleteB m name).1) h') : HCalls A P f_box_Box_Delete #[ptrV b, .string name] h R := by
  have hgood := B.good.delete (name := name)
  obtain ⟨r, kv, B, hS⟩ := B
  refine ok_box_Box_Delete ?_
  unfold F_box_Box_Delete
  refine off_ok B.head ⟨_, rfl, ?_⟩
  unfold deleteB at H hgood
  have hmS : ∀ {h1 : Heap}, Mod (footB b r kv) h h1 → Mod S h h1 := fun m1 => m1.weak fun c _ hc => (hS c).2 hc
  refine PIf.intro (fun hd => ?_) (fun hd => ?_)
  · rw [if_pos hd] at H; exact H h S ⟨r, kv, B, hS⟩ Mod.refl (fun _ h => h)
  rw [if_neg (by simp [hd])] at H hgood
  refine atI (LoadM.mk (hget_lit B.head rfl) (lookup_ok P_mpf P_str P_zpf B.map ?_))
  rcases B.look name with ⟨k1, k2⟩ | ⟨p, hp, k1, k2, k3⟩
  · rw [k1]
    rw [k2] at H
    exact ⟨none, rfl, PIf.yes rfl (H h S ⟨r, kv, B, hS⟩ Mod.refl (fun _ h => h))⟩
  rw [k1]
  rw [k2, if_neg (by simp)] at H hgood
  refine ⟨some ⟨p.2, 0, none⟩, rfl, PIf.no rfl ?_⟩
  refine B.burn (fun hz h1 B1 m1 => ⟨_, rfl, ?_⟩) (fun hz h1 B1 m1 hs1 => ⟨_, rfl, ?_⟩)
  · rw [if_pos hz] at H
    exact PIf.yes rfl (H h1 S ⟨r, kv, B1, hS⟩ (hmS m1) (fun _ h => h))
  rw [if_neg hz] at H hgood
  refine PIf.no rfl ?_
  refine atI (LoadM.mk (hget_lit B1.head rfl) (delete_ok P_mpf P_str B1.map fun h2 M2 m2 hs2 => ⟨rfl, ?_⟩))
  rw [delM_kv] at M2
  have e3 := (tick_fuel m).2.2
  have B2 : BoxAt h2 b r (kv.filter fun p => !decide (p.1.name = name)) { tickB m with files := delF name m.files } := by
    refine ⟨m2.blk B1.head B1.ne_br.symm, M2, fun q hq => ?_, ?_, ?_, hgood⟩
    · have hq := (List.mem_filter.1 hq).1
      exact m2.blk (B1.cells q hq) (B1.ne_pb hq).2
    · have h1 := B.perm.filter fun f => !decide (f.name = name)
      rw [List.filter_map] at h1
      exact h1
    · exact (List.filter_sublist.map _).nodup B.nodup
  refine H h2 (footB b r _) ⟨r, _, B2, fun _ => Iff.rfl⟩ (hmS (m1.trans (m2.weak fun c _ hc => .inr (.inl hc)))) (fun c hc => (hS c).2 ?_)
  rcases hc with h | h | ⟨p, hp, rfl⟩
  · exact .inl h
  · exact .inr (.inl h)
  · exact .inr (.inr ⟨p, (List.mem_filter.1 hp).1, rfl⟩)

/-! ### Fuel, New -/
theorem bNew_ok {A : Amb} {h : Heap} {R : Value → Heap → Prop} (H : ∀ b h' S, IsBox h' b S newB → Ext h h' → (∀ c, S c → h.size ≤ c) → R (ptrV b) h') : HCalls A P f_box_New #[] h R := by
  refine ok_box_New ?_
  unfold F_box_New
  refine New.mk fun h1 _ hb1 x1 hs1 => New.mk fun h2 _ hb2 x2 hs2 => ?_
  refine H _ h2 (footB h1.size h.size []) ⟨_, [], ⟨hb2, MapS.empty (x2.blk hb1 (by simp)), by simp, List.Perm.refl _, by simp, goodB_new⟩, fun _ => Iff.rfl⟩ (x1.trans x2) ?_
  rintro c (rfl | rfl | ⟨p, hp, _⟩)
  · omega
  · exact Nat.le_refl _
  · cases hp
end Go.Lf.G

/-
  Ranges over maps of strings.
-/
set_option maxRecDepth 100000
set_option linter.unusedVariables false
set_option linter.unusedSimpArgs false
namespace Go.Lf
open Go

/-- an iterator over a map that has not been written since: n entries are left -/
def MapIter (h : Heap) (r b : Nat) (m : List (ByteArray × Value)) (n : Nat) : Prop :=
  ∃ es clock seen, h[b]? = some (.map es clock) ∧ MapOf es clock m ∧ h[r]? = some (.mapIter (some b) clock seen clock) ∧ n = (leftOf es seen).size
/-- behind a step: the pair that was told -/
def MapStep (h : Heap) (r b : Nat) (m : List (ByteArray × Value)) (p : ByteArray × Value) (n : Nat) : Prop :=
  ∃ es clock seen e, h[b]? = some (.map es clock) ∧ MapOf es clock m ∧ h[r]? = some (.mapIter (some b) clock (Array.push seen e.born) clock) ∧ e ∈ es.toList ∧ e.key = .string p.1 ∧ e.val = p.2 ∧ n = (leftOf es (seen.push e.born)).size
theorem MapStep.iter {h : Heap} {r b n : Nat} {m : List (ByteArray × Value)} {p : ByteArray × Value} (s : MapStep h r b m p n) : MapIter h r b m n := by
  obtain ⟨es, clock, seen, e, h1, h2, h3, _, _, _, h4⟩ := s
  exact ⟨es, clock, _, h1, h2, h3, h4⟩
theorem MapIter.mod {h h' : Heap} {r b n : Nat} {m : List (ByteArray × Value)} {S : Nat → Prop} (s : MapIter h r b m n) (x : Mod S h h') (hb : ¬ S b) (hr : ¬ S r) : MapIter h' r b m n := by
  obtain ⟨es, clock, seen, h1, h2, h3, h4⟩ := s
  exact ⟨es, clock, seen, x.blk h1 hb, h2, x.blk h3 hr, h4⟩
theorem MapIter.ne {h : Heap} {r b n : Nat} {m : List (ByteArray × Value)} (s : MapIter h r b m n) : r ≠ b := by
  obtain ⟨es, clock, seen, h1, h2, h3, h4⟩ := s
  rintro rfl
  rw [h1] at h3; cases h3

theorem range_ok {A : Amb} {P : Program} {t k e : TypeId} (ht : P.underlying t = some (.map k e)) {h : Heap} {b : Nat} {m : List (ByteArray × Value)} {K : Value → Heap → Prop} (M : MapS h b m)
    (H : ∀ h', MapIter h' h.size b m m.length → Ext h h' → h'.size = h.size + 1 → K (.pointer (some ⟨h.size, 0, none⟩)) h') : RunK A P (Instr.range t (.map (some b))) h K := by
  obtain ⟨es, clock, hb, M⟩ := M
  have hlt := blk_lt hb
  refine fun n => ⟨.pointer (some ⟨h.size, 0, none⟩), h.push (.mapIter (some b) clock #[] clock), n, ?_, H _ ⟨es, clock, #[], ?_, M, ?_, ?_⟩ (Mod.push h _) (by simp)⟩
  · have h1 : (A.at h n).heap[b]? = some (.map es clock) := hb
    simp only [Instr.range, Sem.run_bind, run_und ht, Result.andThen_ok, getObj, Sem.run, h1, Result.andThen, newObj]
    rfl
  · rw [Array.getElem?_push_lt hlt]
    rw [Array.getElem?_eq_getElem hlt] at hb
    exact hb
  · simp
  · rw [← M.len]
    have e1 : leftOf es #[] = es := Array.filter_eq_self.2 fun x hx => by simp
    rw [e1]

theorem left_push {es : Array MapEntry} {seen : Array Nat} {e : MapEntry} (he : e ∈ (leftOf es seen).toList) : (leftOf es (seen.push e.born)).size < (leftOf es seen).size := by
  have h1 : leftOf es (seen.push e.born) = (leftOf es seen).filter fun x => !(x.born == e.born) := by
    unfold leftOf
    rw [Array.filter_filter]
    congr 1
    funext x
    have : (seen.push e.born).contains x.born = (seen.contains x.born || x.born == e.born) := by
      rw [Bool.eq_iff_iff]; simp
    rw [this]
    cases seen.contains x.born <;> cases (x.born == e.born) <;> rfl
  have h2 : (leftOf es (seen.push e.born)).toList = (leftOf es seen).toList.filter fun x => !(x.born == e.born) := by rw [h1, Array.toList_filter]
  have h3 := congrArg List.length h2
  rw [Array.length_toList] at h3
  rw [h3, ← Array.length_toList (xs := leftOf es seen)]
  refine Nat.lt_of_le_of_ne (List.length_filter_le _ _) fun hh => ?_
  have := List.length_filter_eq_length_iff.1 hh e he
  simp at this

theorem next_ok {A : Amb} {P : Program} {ty : TypeId} {h : Heap} {r b n : Nat} {m : List (ByteArray × Value)} {K : Value → Heap → Prop} (I : MapIter h r b m n)
    (H0 : K (.tuple #[.bool false]) h) (H1 : ∀ p ∈ m, ∀ h' n', MapStep h' r b m p n' → n' < n → Mod (· = r) h h' → K (.tuple #[.bool true, .string p.1, p.2]) h') :
    RunK A P (Instr.next (.pointer (some ⟨r, 0, none⟩)) false ty) h K := by
  have hne := I.ne
  obtain ⟨es, clock, seen, hb, M, hr, hn⟩ := I
  intro d
  have hold : ∀ x ∈ es.toList, x.born < clock := M.stamped.1
  rcases run_next_at (P := P) (A.at h d) ty r b clock clock seen es clock hr hb hold (Nat.le_refl _) with ⟨_, hrun⟩ | ⟨e, he, w1, hw, hrun⟩
  · exact ⟨_, h, d, hrun, H0⟩
  · have hes : e ∈ es.toList := by
      unfold leftOf at he
      simp at he
      simpa using he.1
    have hm : (e.key, e.val) ∈ m.map fun p => (Value.string p.1, p.2) := by rw [← M.same]; exact List.mem_map.2 ⟨e, hes, rfl⟩
    obtain ⟨p, hp, hpe⟩ := List.mem_map.1 hm
    simp only [Prod.mk.injEq] at hpe
    have hlt := blk_lt hr
    have e1 : ∃ d', ChangeMaps.setBlock w1 r (.mapIter (some b) clock (seen.push e.born) clock) = A.at (h.setIfInBounds r (.mapIter (some b) clock (seen.push e.born) clock)) d' := by
      rcases hw with rfl | rfl
      · exact ⟨d, rfl⟩
      · exact ⟨d + 1, rfl⟩
    obtain ⟨d', e1⟩ := e1
    rw [e1] at hrun
    rw [← hpe.1, ← hpe.2] at hrun
    refine ⟨_, _, d', hrun, ?_⟩
    have hr' : (h.setIfInBounds r (.mapIter (some b) clock (seen.push e.born) clock))[r]? = some (.mapIter (some b) clock (seen.push e.born) clock) := setObj_self hlt
    have m' : Mod (· = r) h (h.setIfInBounds r (.mapIter (some b) clock (seen.push e.born) clock)) := Mod.setObj rfl
    refine H1 p hp _ (leftOf es (seen.push e.born)).size ⟨es, clock, seen, e, m'.blk hb hne.symm, M, hr', hes, hpe.1.symm, hpe.2.symm, rfl⟩ ?_ m'
    rw [hn]
    exact left_push he

theorem entry_ok {A : Amb} {P : Program} {h : Heap} {r b n : Nat} {m : List (ByteArray × Value)} {p : ByteArray × Value} {K : Value → Heap → Prop} (S : MapStep h r b m p n) (H : K (.tuple #[.string p.1, p.2]) h) :
    RunK A P (Instr.entry (.pointer (some ⟨r, 0, none⟩))) h K := by
  obtain ⟨es, clock, seen, e, hb, M, hr, he, hk, hv, _⟩ := S
  intro d
  have := run_entry_at (P := P) (A.at h d) r b clock seen es clock e hr hb he M.stamped.2.1
  rw [hk, hv] at this
  exact ⟨_, h, d, this, H⟩
end Go.Lf

/-
  Contracts: the archive (chapter 20) over a box that is not down and has no end of fuel.
-/
set_option maxRecDepth 100000
set_option linter.unusedVariables false
set_option linter.unusedSimpArgs false
namespace Go.Lf.G
open Go

/-! ### a calm box -/
def Calm (m : Bx) : Prop := m.down = false ∧ m.fuel = -1
def fileB (m : Bx) (k : ByteArray) : Option ByteArray := (findF k m.files).map fun f => f.firm ++ f.soft
theorem calm_tick {m : Bx} (c : Calm m) : tickB m = m := by unfold tickB; rw [if_neg (by rw [c.2]; decide)]
theorem calm_new : Calm newB := ⟨rfl, rfl⟩
theorem file_new (k : ByteArray) : fileB newB k = none := rfl
theorem calm_read {m : Bx} (c : Calm m) (k : ByteArray) : readB m k = match fileB m k with | none => (bs0, 31) | some s => (s, 0) := by
  unfold readB fileB
  rw [if_neg (by simp [c.1])]
  cases findF k m.files <;> rfl
theorem calm_delete {m : Bx} (c : Calm m) (k : ByteArray) : ((deleteB m k).1 = 0 ∨ (deleteB m k).1 = 31) ∧ Calm (deleteB m k).2 ∧ ∀ x, fileB (deleteB m k).2 x = if x = k then none else fileB m x := by
  unfold deleteB
  rw [if_neg (by simp [c.1]), calm_tick c]
  cases hf : findF k m.files with
  | none =>
    refine ⟨.inr rfl, c, fun x => ?_⟩
    by_cases hx : x = k
    · subst hx; simp [fileB, hf]
    · rw [if_neg hx]; rfl
  | some f =>
    rw [if_neg (by simp), if_neg (by rw [c.2]; decide)]
    refine ⟨.inl rfl, ⟨c.1, c.2⟩, fun x => ?_⟩
    simp only [fileB, findF_del]
    split <;> rfl
theorem find_have {k x : ByteArray} (l : List Fi) : findF x (haveF k l) = if x = k then some ((findF k l).getD ⟨k, bs0, bs0⟩) else findF x l := by
  unfold haveF
  cases hf : findF k l with
  | some f =>
    simp only [Option.isSome_some, if_true]
    by_cases hx : x = k
    · subst hx; simp [hf]
    · rw [if_neg hx]
  | none =>
    rw [if_neg (by simp), findF_ins (fun y hy => findF_none hf y hy)]
    by_cases hx : x = k
    · subst hx; simp
    · rw [if_neg hx, if_neg (fun h => hx h.symm)]
theorem calm_append {m : Bx} (c : Calm m) {k d : ByteArray} (hk : badName k = false) : (appendB m k d).1 = 0 ∧ Calm (appendB m k d).2 ∧ ∀ x, fileB (appendB m k d).2 x = if x = k then some ((fileB m k).getD bs0 ++ d) else fileB m x := by
  unfold appendB
  rw [if_neg (by simp [c.1]), if_neg (by simp [hk]), if_neg (by rw [c.2]; decide), calm_tick c]
  refine ⟨rfl, ⟨c.1, c.2⟩, fun x => ?_⟩
  simp only [fileB]
  rw [findF_upd (g := addF d) (fun _ => rfl), find_have]
  by_cases hx : x = k
  · subst hx
    rw [if_pos rfl, if_pos rfl]
    cases hf : findF x m.files with
    | none => simp [addF, nil_app, app_nil]
    | some f =>
      have := (findF_some hf).1
      simp [addF, this, ByteArray.append_assoc]
  · rw [if_neg hx, if_neg hx]
    cases hf : findF x m.files with
    | none => rfl
    | some f =>
      have := (findF_some hf).1
      simp only [Option.map_some]
      rw [if_neg (by rw [this]; exact hx)]
theorem calm_sync {m : Bx} (c : Calm m) {k : ByteArray} (hk : (fileB m k).isSome = true) : (syncB m k).1 = 0 ∧ Calm (syncB m k).2 ∧ ∀ x, fileB (syncB m k).2 x = fileB m x := by
  unfold syncB
  have hf : (findF k m.files).isNone = false := by
    unfold fileB at hk
    cases hf : findF k m.files with
    | none => rw [hf] at hk; cases hk
    | some f => rfl
  rw [if_neg (by simp [c.1]), if_neg (by simp [hf]), if_neg (by rw [c.2]; decide), calm_tick c]
  refine ⟨rfl, ⟨c.1, c.2⟩, fun x => ?_⟩
  simp only [fileB]
  rw [findF_upd (g := firmF) (fun _ => rfl)]
  cases findF x m.files with
  | none => rfl
  | some f =>
    simp only [Option.map_some]
    split <;> simp [firmF, app_nil]

/-! ### the archive -/
def zn (w : ByteArray) : ByteArray := (⟨#[122]⟩ : ByteArray) ++ w
theorem zn_size (w : ByteArray) : (zn w).size = 1 + w.size := by unfold zn; rw [ByteArray.size_append]; rfl
theorem zn_inj {a b : ByteArray} (h : zn a = zn b) : a = b := by
  have := congrArg (fun s : ByteArray => s.data.toList) h
  simp [zn, ByteArray.data_append] at this
  apply ByteArray.ext
  exact Array.toList_inj.1 (by simpa using this)
theorem zn_good {w : ByteArray} (h : nameOK w = true) : badName (zn w) = false := by
  have h1 := nameOK_iff.1 h
  have h2 := zn_size w
  unfold badName
  rw [Bool.or_eq_false_iff, decide_eq_false_iff_not, decide_eq_false_iff_not]
  refine ⟨fun h3 => ?_, by omega⟩
  rw [h3] at h2
  have : bs0.size = 0 := rfl
  omega
/-- errno, and a history that was kept -/
def readA (m : Bx) (w : ByteArray) : Int × List Ev :=
  if nameOK w = true then
    if (readB m (zn w)).2 ≠ 0 then ((readB m (zn w)).2, [])
    else if (nextL (bl (readB m (zn w)).1)).1 ≠ 0 then ((nextL (bl (readB m (zn w)).1)).1, [])
    else if (nextL (bl (readB m (zn w)).1)).2.2 ≠ [] then (60, [])
    else match unpackEv (nextL (bl (readB m (zn w)).1)).2.1 with | none => (60, []) | some l => (0, l)
  else (1, [])
theorem aFile_ok {A : Amb} {h : Heap} {w : ByteArray} {R : Value → Heap → Prop} (hw : w.size ≤ 1099511627776) (H : R (.string (zn w)) h) : HCalls A P f_archive_File #[.string w] h R := by
  refine ok_archive_File ?_
  unfold F_archive_File
  exact ⟨by have : (⟨#[122]⟩ : ByteArray).size = 1 := rfl; rw [max_i64]; omega, H⟩
theorem read_size {m : Bx} (k : ByteArray) : (readB m k).1.size ≤ wtF m.files := by
  unfold readB
  split
  · exact Nat.zero_le _
  · cases hf : findF k m.files with
    | none => exact Nat.zero_le _
    | some f =>
      have := wtF_mem (findF_some hf).2
      simp only [ByteArray.size_append]
      exact this
theorem fNext_ok' {A : Amb} {h : Heap} {s : ByteArray} {R : Value → Heap → Prop} (hl : s.size ≤ 1099511627776)
    (H : ∀ h', Ext h h' → R (.tuple #[.string (strL (nextL (bl s)).2.1), .string (strL (nextL (bl s)).2.2), .int .i64 ((nextL (bl s)).1 : Int)]) h') : HCalls A P f_frame_Next #[.string s] h R := by
  have := fNext_ok (A := A) (h := h) (l := bl s) (R := R) (by rw [bl_size]; exact hl) H
  rwa [strL_bl] at this
theorem next_len (l : List UInt8) : (nextL l).2.1.length ≤ l.length := by
  unfold nextL
  cases hg : getV 0 0 l with
  | none => dsimp only; split <;> exact Nat.zero_le _
  | some p =>
    obtain ⟨n, t⟩ := p
    obtain ⟨e, _⟩ := getV0 hg
    have ht : t.length ≤ l.length := by rw [e]; simp
    dsimp only
    split
    · exact Nat.zero_le _
    · split
      · exact Nat.zero_le _
      · split
        · simp; omega
        · exact Nat.zero_le _
theorem aEvents_ok {A : Amb} {h : Heap} {ab b : Nat} {S : Nat → Prop} {m : Bx} {w : ByteArray} {T : TypeId} {R : Value → Heap → Prop} (ha : h[ab]? = some (.cells #[ptrV b] T (0, 0))) (B : IsBox h b S m) (hw : wtF m.files < 1099511627776) (hws : w.size ≤ 1099511627776)
    (H : ∀ h' s, Ext h h' → View EvE h' s (readA m w).2 → (readA m w).2.length ≤ 500 → R (.tuple #[.slice s.p s.len s.cap, .int .i64 (readA m w).1]) h') : HCalls A P f_archive_Archive_Events #[ptrV ab, .string w] h R := by
  refine ok_archive_Archive_Events ?_
  unfold F_archive_Archive_Events
  have none_ok : ∀ h' (n : Int), Ext h h' → readA m w = (n, []) → R (.tuple #[.slice none 0 0, .int .i64 n]) h' := fun h' n x e => by
    have := H h' ⟨none, 0, 0⟩ x (by rw [e]; exact View.nil) (by rw [e]; exact Nat.zero_le _)
    rw [e] at this
    exact this
  refine Join.mk fun K hK => PIf.no rfl (pNamed_ok ⟨_, rfl, hK _ _ ?_⟩)
  have hr : readA m w = if nameOK w = true then
    if (readB m (zn w)).2 ≠ 0 then ((readB m (zn w)).2, [])
    else if (nextL (bl (readB m (zn w)).1)).1 ≠ 0 then ((nextL (bl (readB m (zn w)).1)).1, [])
    else if (nextL (bl (readB m (zn w)).1)).2.2 ≠ [] then (60, [])
    else match unpackEv (nextL (bl (readB m (zn w)).1)).2.1 with | none => (60, []) | some l => (0, l)
    else (1, []) := rfl
  cases hn : nameOK w with
  | false =>
    rw [hn, if_neg (by decide)] at hr
    exact PIf.yes rfl (none_ok h 1 Mod.refl hr)
  | true =>
    rw [hn, if_pos rfl] at hr
    refine PIf.no rfl (atI (LoadP.mk (hget_lit ha rfl) (aFile_ok hws ⟨_, rfl, hget_lit ha rfl, ?_⟩)))
    refine bRead_ok B ⟨_, _, rfl, ?_⟩
    refine PIf.intro (fun q => ?_) (fun q => ?_)
    · have q : (readB m (zn w)).2 ≠ 0 := by simpa using q
      rw [if_pos q] at hr
      exact none_ok h _ Mod.refl hr
    have q : ¬ (readB m (zn w)).2 ≠ 0 := by simpa using q
    rw [if_neg q] at hr
    have hsz := read_size (m := m) (zn w)
    refine fNext_ok' (by omega) fun h1 x1 => ⟨_, _, _, rfl, ?_⟩
    refine PIf.intro (fun q => ?_) (fun q => ?_)
    · have q : (nextL (bl (readB m (zn w)).1)).1 ≠ 0 := by simp at q; omega
      rw [if_pos q] at hr
      exact none_ok h1 _ x1 hr
    have q : ¬ (nextL (bl (readB m (zn w)).1)).1 ≠ 0 := by simp at q; omega
    rw [if_neg q] at hr
    rw [bs_eq]
    have hrest : decide (strL (nextL (bl (readB m (zn w)).1)).2.2 = bs0') = decide ((nextL (bl (readB m (zn w)).1)).2.2 = []) := by
      rw [decide_eq_decide]; exact strL_inj (b := [])
    rw [hrest]
    refine PIf.intro (fun q => ?_) (fun q => ?_)
    · have q : (nextL (bl (readB m (zn w)).1)).2.2 ≠ [] := by simpa using q
      rw [if_pos q] at hr
      exact none_ok h1 _ x1 hr
    have q : ¬ (nextL (bl (readB m (zn w)).1)).2.2 ≠ [] := by simpa using q
    rw [if_neg q] at hr
    have hnl := next_len (bl (readB m (zn w)).1)
    rw [bl_size] at hnl
    refine eUnpack_ok (by omega) (fun hu h2 x2 => ⟨⟨none, 0, 0⟩, _, rfl, ?_⟩) (fun es hu h2 s x2 v hl => ⟨s, _, rfl, ?_⟩)
    · rw [hu] at hr
      exact none_ok h2 _ (x1.trans x2) hr
    · rw [hu] at hr
      have := H h2 s (x1.trans x2) (by rw [hr]; exact v) (by rw [hr]; exact hl)
      rw [hr] at this
      exact this
end Go.Lf.G

/-
  Contracts: a history is kept (chapter 20); an archive that is awake.
-/
set_option maxRecDepth 100000
set_option linter.unusedVariables false
set_option linter.unusedSimpArgs false
namespace Go.Lf.G
open Go

def keepE (w : ByteArray) (l : List Ev) : Int := if nameOK w = true then (if (packEv l).1 ≠ 0 then (packEv l).1 else if 1048576 < (packEv l).2.length then 2 else 0) else 1
def keepD (l : List Ev) : ByteArray := strL (wrapL (packEv l).2)
theorem keep_zero {w : ByteArray} {l : List Ev} (h : keepE w l = 0) : nameOK w = true ∧ (packEv l).1 = 0 ∧ (packEv l).2.length ≤ 1048576 := by
  unfold keepE at h
  split at h
  · rename_i hn
    split at h
    · rename_i h1; exact absurd h (by omega)
    · split at h
      · cases h
      · rename_i h1 h2
        exact ⟨hn, by omega, by omega⟩
  · cases h
theorem pack_zero {l : List Ev} (h : (packEv l).1 = 0) : l.length ≤ 500 ∧ l.all evOK = true ∧ (packEv l).2 = encEvs l := by
  unfold packEv at h ⊢
  split at h
  · cases h
  · rename_i h5
    split at h
    · rename_i ha
      rw [if_neg h5, if_pos ha]
      exact ⟨by omega, ha, rfl⟩
    · cases h
theorem read_kept {m : Bx} (c : Calm m) {w : ByteArray} {l : List Ev} (hk : keepE w l = 0) (hd : ∀ e ∈ l, e.data.size ≤ 4194304) (hf : fileB m (zn w) = some (keepD l)) : readA m w = (0, l) := by
  obtain ⟨h1, h2, h3⟩ := keep_zero hk
  obtain ⟨h4, h5, h6⟩ := pack_zero h2
  have hr : readB m (zn w) = (keepD l, 0) := by rw [calm_read c, hf]
  have hn := next_wrap (l := (packEv l).2) h3 []
  rw [List.append_nil] at hn
  have hu : unpackEv (packEv l).2 = some l := by
    rw [h6]
    refine unpack_pack h4 h5 fun e he => ?_
    have := hd e he
    have := encEv_len (evOK_head (List.all_eq_true.1 h5 e he)) (by omega)
    omega
  unfold readA
  rw [if_pos h1, hr]
  simp only [keepD, bl_strL, hn, hu]
  rfl
theorem keepD_size {w : ByteArray} {l : List Ev} (h : keepE w l = 0) : (keepD l).size ≤ 1048590 := by
  obtain ⟨_, _, h3⟩ := keep_zero h
  have := putV_len10 (n := (packEv l).2.length) (by omega)
  simp only [keepD, strL_size, wrapL, List.length_append, markL_len]
  omega
theorem fWrap_all {A : Amb} {h : Heap} {l : List UInt8} {R : Value → Heap → Prop} (hl : l.length ≤ 1099511627776)
    (H : ∀ h' s n, Ext h h' → (1048576 < l.length → s = (⟨#[]⟩ : ByteArray) ∧ n = (2 : Int)) → (l.length ≤ 1048576 → s = strL (wrapL l) ∧ n = 0) → R (.tuple #[.string s, .int .i64 n]) h') : HCalls A P f_frame_Wrap #[.string (strL l)] h R :=
  fWrap_ok hl (fun h1 => H h _ _ Mod.refl (fun _ => ⟨rfl, rfl⟩) fun h2 => by omega) fun h1 h' x => H h' _ _ x (fun h2 => by omega) fun _ => ⟨rfl, rfl⟩
theorem pack_len {l : List Ev} (hl : l.length ≤ 1099511627776) (hd : ∀ e ∈ l, e.data.size ≤ 4194304) : (packEv l).2.length ≤ 1099511627776 := by
  unfold packEv
  split
  · exact Nat.zero_le _
  · rename_i h5
    split
    · rename_i ha
      have h1 := flat_le ha hd
      have h2 := putV_len10 (n := l.length) (by omega)
      have h3 : l.length * 5000000 ≤ 500 * 5000000 := Nat.mul_le_mul_right _ (by omega)
      simp only [encEvs, List.length_append]
      omega
    · exact Nat.zero_le _

theorem aKeep_ok {A : Amb} {h : Heap} {ab b : Nat} {S : Nat → Prop} {m : Bx} {w : ByteArray} {s : Sl} {l : List Ev} {T : TypeId} {R : Value → Heap → Prop} (ha : h[ab]? = some (.cells #[ptrV b] T (0, 0))) (B : IsBox h b S m) (c : Calm m) (hS : ¬ S ab)
    (hw : wtF m.files + 2000000 < 1099511627776) (hws : w.size ≤ 1099511627776) (v : View EvE h s l) (vs : ∀ h', Mod S h h' → View EvE h' s l) (hl : l.length ≤ 1099511627776) (hd : ∀ e ∈ l, e.data.size ≤ 4194304)
    (H0 : keepE w l ≠ 0 → ∀ h', Ext h h' → R (.int .i64 (keepE w l)) h')
    (H1 : keepE w l = 0 → ∀ h' S' m', IsBox h' b S' m' → Calm m' → Mod S h h' → (∀ c, S' c → S c ∨ h.size ≤ c) → (∀ x, fileB m' x = if x = zn w then some (keepD l) else fileB m x) → wtF m'.files ≤ wtF m.files + 2000000 → R (.int .i64 0) h') :
    HCalls A P f_archive_Archive_Keep #[ptrV ab, .string w, .slice s.p s.len s.cap] h R := by
  refine ok_archive_Archive_Keep ?_
  unfold F_archive_Archive_Keep
  have hlt := blk_lt ha
  refine Join.mk fun K hK => PIf.no rfl (pNamed_ok ⟨_, rfl, hK _ _ ?_⟩)
  have hke : keepE w l = if nameOK w = true then (if (packEv l).1 ≠ 0 then ((packEv l).1 : Int) else if 1048576 < (packEv l).2.length then 2 else 0) else 1 := rfl
  cases hn : nameOK w with
  | false =>
    rw [hn, if_neg (by decide)] at hke
    have := H0 (by rw [hke]; decide) h Mod.refl
    rw [hke] at this
    exact PIf.yes rfl this
  | true =>
    rw [hn, if_pos rfl] at hke
    refine PIf.no rfl (ePack_ok v hl hd fun h1 x1 => ⟨_, _, rfl, ?_⟩)
    refine PIf.intro (fun q => ?_) (fun q => ?_)
    · have q : (packEv l).1 ≠ 0 := by simp at q; omega
      rw [if_pos q] at hke
      have := H0 (by rw [hke]; omega) h1 x1
      rw [hke] at this
      exact this
    have q : ¬ (packEv l).1 ≠ 0 := by simp at q; omega
    rw [if_neg q] at hke
    refine fWrap_all (pack_len hl hd) fun h2 ws wn x2 k1 k2 => ⟨_, _, rfl, ?_⟩
    by_cases hlen : 1048576 < (packEv l).2.length
    · obtain ⟨rfl, rfl⟩ := k1 hlen
      rw [if_pos hlen] at hke
      have := H0 (by rw [hke]; decide) h2 (x1.trans x2)
      rw [hke] at this
      exact PIf.yes rfl this
    · obtain ⟨rfl, rfl⟩ := k2 (by omega)
      rw [if_neg hlen] at hke
      refine PIf.no rfl ?_
      have x02 := x1.trans x2
      have ha2 := x02.blk ha (fun h => h)
      have B2 := B.ext x02
      have v2 := v.ext x02
      refine atI (LoadP.mk (hget_lit ha2 rfl) (aFile_ok hws ⟨_, rfl, hget_lit ha2 rfl, ?_⟩))
      obtain ⟨d1, d2, d3⟩ := calm_delete c (zn w)
      refine bDelete_ok B2 fun h3 S3 B3 m3 s3 => ⟨_, rfl, ?_⟩
      have hw3 := wt_delete (m := m) (zn w)
      refine Join.mk fun K1 hK1 => ?_
      have go : K1 (false, ()) h3 := by
        refine hK1 _ _ (PIf.no rfl ?_)
        have ha3 := m3.blk ha2 hS
        refine atI (LoadP.mk (hget_lit ha3 rfl) (aFile_ok hws ⟨_, rfl, hget_lit ha3 rfl, ?_⟩))
        have hsz := keepD_size hke
        obtain ⟨p1, p2, p3⟩ := calm_append d2 (k := zn w) (d := keepD l) (zn_good hn)
        refine bAppend_ok B3 (by show wtF (deleteB m (zn w)).2.files + (keepD l).size + 1 ≤ _; omega) fun h4 S4 B4 m4 s4 => ⟨_, rfl, ?_⟩
        have hw4 := wt_append B3.good (zn w) (keepD l)
        have ep1 : (appendB (deleteB m (zn w)).2 (zn w) (strL (wrapL (packEv l).2))).1 = 0 := p1
        rw [ep1]
        refine PIf.no rfl ?_
        have hS3 : ¬ S3 ab := fun hc => hS (s3 _ hc)
        have ha4 := m4.blk ha3 hS3
        refine atI (LoadP.mk (hget_lit ha4 rfl) (aFile_ok hws ⟨_, rfl, hget_lit ha4 rfl, ?_⟩))
        have hfile : fileB (appendB (deleteB m (zn w)).2 (zn w) (keepD l)).2 (zn w) = some (keepD l) := by rw [p3, if_pos rfl, d3, if_pos rfl]; simp [nil_app]
        obtain ⟨y1, y2, y3⟩ := calm_sync p2 (k := zn w) (by rw [hfile]; rfl)
        refine bSync_ok B4 fun h5 B5 m5 => ⟨_, rfl, ?_⟩
        have hw5 := wt_sync B4.good (zn w)
        have ey1 : (syncB (appendB (deleteB m (zn w)).2 (zn w) (strL (wrapL (packEv l).2))).2 (zn w)).1 = 0 := y1
        rw [ey1]
        refine PIf.no rfl ?_
        have hlt2 := x02.size
        have hlt3 := m3.size
        have hS4 : ¬ S4 ab := fun hc => by rcases s4 _ hc with h | h; exact hS3 h; omega
        have ha5 := m5.blk ha4 hS4
        have m25 : Mod S h2 h5 := (m3.trans (m4.weak fun c _ hc => s3 c hc)).then (m5.weak fun c _ hc => by rcases s4 c hc with h | h; exact .inl (s3 c h); exact .inr (by omega))
        have hfin : fileB (syncB (appendB (deleteB m (zn w)).2 (zn w) (keepD l)).2 (zn w)).2 (zn w) = some (keepD l) := by rw [y3, hfile]
        have hread := read_kept y2 hke hd hfin
        have hwt5 : wtF (syncB (appendB (deleteB m (zn w)).2 (zn w) (keepD l)).2 (zn w)).2.files ≤ wtF m.files + 2000000 := by
          have e1 : wtF (appendB (deleteB m (zn w)).2 (zn w) (keepD l)).2.files ≤ wtF (deleteB m (zn w)).2.files + (keepD l).size + 1 := hw4
          have e2 : wtF (syncB (appendB (deleteB m (zn w)).2 (zn w) (keepD l)).2 (zn w)).2.files ≤ wtF (appendB (deleteB m (zn w)).2 (zn w) (keepD l)).2.files := hw5
          omega
        have B5' : IsBox h5 b S4 (syncB (appendB (deleteB m (zn w)).2 (zn w) (keepD l)).2 (zn w)).2 := B5
        generalize hm5 : (syncB (appendB (deleteB m (zn w)).2 (zn w) (keepD l)).2 (zn w)).2 = mm at *
        refine aEvents_ok ha5 B5' (by omega) hws fun h6 s6 x6 v6 hl6 => ⟨s6, _, rfl, ?_⟩
        rw [hread] at v6 ⊢
        refine PIf.no rfl ?_
        have v2' : View EvE h6 s l := (vs h5 ((Ext.mod x02).trans m25)).ext x6
        refine eEqual_ok v6 v2' hl ⟨_, rfl, ?_⟩
        rw [decide_eq_true rfl]
        refine PIf.no rfl ?_
        refine H1 hke h6 S4 mm (B5'.ext x6) y2 ?_ ?_ ?_ hwt5
        · exact ((Ext.mod x02).trans m25).trans (Ext.mod x6)
        · intro c hc
          rcases s4 c hc with h | h
          · exact .inl (s3 c h)
          · exact .inr (by omega)
        · intro x
          rw [y3, p3]
          by_cases hx : x = zn w
          · rw [if_pos hx, if_pos hx, d3, if_pos rfl]; simp [nil_app]
          · rw [if_neg hx, if_neg hx, d3, if_neg hx]
      rcases d1 with d1 | d1
      · rw [d1]
        exact PIf.no rfl go
      · rw [d1]
        exact PIf.yes rfl go

/-- an event without fields -/
def evS (id kind : Int) : Ev := ⟨id, kind, 0, 0, 0, 0, false, bs0'⟩
theorem evS_ok {id : Int} (h : 1 ≤ id ∧ id ≤ 500) : evOK (evS id 2) = true ∧ evOK (evS id 13) = true := by
  constructor <;> simp [evOK, evHead, evTail, evS, flR, flS, flT, flU, flD, inE, inI, h.1, h.2]
theorem keep_small {w : ByteArray} {l : List Ev} (hn : nameOK w = true) (hl : l.length ≤ 500) (hok : l.all evOK = true) (hd : ∀ e ∈ l, e.data.size = 0) : keepE w l = 0 := by
  have hp : packEv l = (0, encEvs l) := by unfold packEv; rw [if_neg (by omega), if_pos hok]
  have hlen : ∀ l : List Ev, l.all evOK = true → (∀ e ∈ l, e.data.size = 0) → (l.flatMap fun e => textL (encEv e)).length ≤ l.length * 110 := by
    intro l
    induction l with
    | nil => intro _ _; simp
    | cons e l ih =>
      intro h1 h2
      simp only [List.all_cons, Bool.and_eq_true] at h1
      have h3 := ih h1.2 fun x hx => h2 x (List.mem_cons_of_mem _ hx)
      have h4 := h2 e (by simp)
      have h5 := encEv_len (evOK_head h1.1) (by omega)
      have h6 := putV_len10 (n := (encEv e).length) (by omega)
      have h7 : (textL (encEv e)).length = (putV (encEv e).length).length + (encEv e).length := by simp [textL]
      simp only [List.flatMap_cons, List.length_append, List.length_cons]
      omega
  have h1 := hlen l hok hd
  have h2 := putV_len10 (n := l.length) (by omega)
  have h3 : (encEvs l).length ≤ 1048576 := by
    simp only [encEvs, List.length_append]
    have : l.length * 110 ≤ 500 * 110 := Nat.mul_le_mul_right _ hl
    omega
  unfold keepE
  rw [if_pos hn, hp]
  simp only
  rw [if_neg (by simp), if_neg (by omega)]

theorem aNew_ok {A : Amb} {h : Heap} {b : Nat} {R : Value → Heap → Prop} (H : ∀ h', h'[h.size]? = some (.cells #[ptrV b] t_archive_Archive (0, 0)) → Ext h h' → h'.size = h.size + 1 → R (ptrV h.size) h') : HCalls A P f_archive_New #[ptrV b] h R := by
  refine ok_archive_New ?_
  unfold F_archive_New
  exact New.mk fun h1 _ hb x hs => H h1 hb x hs

abbrev sW : ByteArray := ⟨#[119]⟩
abbrev sX : ByteArray := ⟨#[120]⟩
theorem nameW : nameOK sW = true := by decide
theorem nameX : nameOK sX = true := by decide
theorem wx : ¬ (zn sX = zn sW) := fun h => by have := zn_inj h; revert this; decide
theorem awake20_ok {A : Amb} {h : Heap} {R : Value → Heap → Prop} (H : ∀ h', Ext h h' → R (.bool true) h') : HCalls A P f_wherrylaw20_awake #[] h R := by
  refine ok_wherrylaw20_awake ?_
  unfold F_wherrylaw20_awake
  refine bNew_ok fun b h1 S B x1 hS => ⟨_, rfl, ?_⟩
  refine aNew_ok fun h2 ha x2 hs2 => ⟨_, rfl, ?_⟩
  refine New.mk fun h3 _ hb3 x3 hs3 => ?_
  have B3 := (B.ext x2).ext x3
  have ha3 := x3.blk ha (fun h => h)
  have hs1 : ∀ c, S c → c < h1.size := fun c hc => B.lt hc
  have o3 : Own EvE t_api_Event h3 ⟨some ⟨h2.size, 0, none⟩, 1, 1⟩ [evS 2 2] := Own.lit (E := EvE) (l := [evS 2 2]) hb3 rfl (by simp [maxLen])
  have hk : keepE sW [evS 2 2] = 0 := keep_small nameW (by simp) (by simp [(evS_ok (id := 2) ⟨by decide, by decide⟩).1]) (by simp [evS]; rfl)
  have hd : ∀ e ∈ [evS 2 2], e.data.size ≤ 4194304 := fun e he => by
    obtain rfl := List.mem_singleton.1 he
    exact Nat.zero_le _
  have hx1 := x1.size
  refine aKeep_ok (s := ⟨some ⟨h2.size, 0, none⟩, 1, 1⟩) (l := [evS 2 2]) ha3 B3 calm_new (fun hc => by have := hs1 _ hc; omega) (by simp [newB, wtF]) (by decide) o3.view
    (fun h' md => o3.view.mod md fun c hc => by simp [Sl.blk] at hc; subst hc; exact fun hc => by have := hs1 _ hc; omega) (by simp) hd (fun hne => absurd hk hne) fun _ h4 S4 m4 B4 c4 md4 s4 f4 w4 => ⟨_, rfl, ?_⟩
  have hab : ¬ S h1.size := fun hc => by have := hs1 _ hc; omega
  have ha4 := md4.blk ha3 hab
  have ho4 : View EvE h4 ⟨some ⟨h2.size, 0, none⟩, 1, 1⟩ [evS 2 2] := o3.view.mod md4 fun c hc hc2 => by simp [Sl.blk] at hc; subst hc; have := hs1 _ hc2; omega
  have x03 : Ext h h3 := (x1.trans x2).trans x3
  have x04 : Ext h h4 := x03.more md4 fun c hc => hS c hc
  have hw0 : wtF newB.files = 0 := rfl
  have r1 : readA m4 sW = (0, [evS 2 2]) := read_kept c4 hk hd (by rw [f4, if_pos rfl])
  refine aEvents_ok ha4 B4 (by omega) (by decide) fun h5 s5 x5 v5 l5 => ⟨s5, _, rfl, ?_⟩
  rw [r1] at v5 ⊢
  have ha5 := x5.blk ha4 (fun h => h)
  have r2 : readA m4 sX = (31, []) := by
    have : readB m4 (zn sX) = (bs0, 31) := by rw [calm_read c4, f4, if_neg wx]; rfl
    unfold readA
    rw [if_pos nameX, this]
    rfl
  refine aEvents_ok ha5 (B4.ext x5) (by omega) (by decide) fun h6 s6 x6 v6 l6 => ⟨s6, _, rfl, ?_⟩
  rw [r2] at v6 ⊢
  refine PIf.yes rfl (PIf.yes rfl (PIf.yes rfl ?_))
  have hl5 : s5.len = 1 := by rw [v5.len]; rfl
  refine PIf.yes (by rw [hl5]; rfl) ?_
  refine (v5.ext x6).idx (i := 0) (x := evS 2 2) rfl fun a _ c1 => ?_
  obtain ⟨p0, p1, p2, p3, p4, p5, p6, p7⟩ := ev_at c1
  refine LoadI.mk p0 (LoadI.mk p1 (LoadI.mk p2 (LoadI.mk p3 (LoadI.mk p4 (LoadI.mk p5 (LoadB.mk p6 (LoadS.mk p7 ?_)))))))
  refine ((ho4.ext x5).ext x6).idx (i := 0) (x := evS 2 2) rfl fun a2 _ c2 => ?_
  obtain ⟨q0, q1, q2, q3, q4, q5, q6, q7⟩ := ev_at c2
  refine LoadI.mk q0 (LoadI.mk q1 (LoadI.mk q2 (LoadI.mk q3 (LoadI.mk q4 (LoadI.mk q5 (LoadB.mk q6 (LoadS.mk q7 ?_)))))))
  refine eqEv ⟨_, rfl, ?_⟩
  refine PIf.yes (decide_eq_true rfl) ?_
  refine aFile_ok (by decide) ⟨_, rfl, ?_⟩
  have e : sEq (zn ⟨#[119, 49]⟩) (⟨#[122, 119, 49]⟩ : ByteArray) = true := by rw [sEq_iff]; decide
  rw [e]
  exact H h6 ((x04.trans x5).trans x6)
end Go.Lf.G

