/-
  Contracts: the box (chapter 3): its state in memory; its small methods; Append, Sync, Read, Delete.
-/
import Derived.Test.YtcaiammecilkeaaLfV2
import Derived.Test.YtcaiammecilkeaaLfU2
set_option maxRecDepth 100000
set_option linter.unusedVariables false
set_option linter.unusedSimpArgs false
namespace Go.Lf.G
open Go

theorem LoadM.mk {h : Heap} {a : Addr} {K : Option Nat → Prop} {n : Option Nat} (hv : hget h a = some (.map n)) (H : K n) : LoadM h a K := ⟨n, hv, H⟩
theorem P_mpf : P.underlying t_map_string_p_box_file = some (.map t_string t_p_box_file) := by kernel_rfl
theorem P_zpf : (zeroValue t_p_box_file).calc P = some (.pointer none) := by kernel_rfl

abbrev kvM (kv : List (Fi × Nat)) : List (ByteArray × Value) := kv.map fun p => (p.1.name, ptrV p.2)

structure BoxAt (h : Heap) (b r : Nat) (kv : List (Fi × Nat)) (m : Bx) : Prop where
  head : h[b]? = some (.cells #[.map (some r), .int .i64 m.fuel, .bool m.down] t_box_Box (0, 0))
  map : MapS h r (kvM kv)
  cells : ∀ p ∈ kv, h[p.2]? = some (.cells #[.string p.1.firm, .string p.1.soft] t_box_file (0, 0))
  perm : (kv.map (·.1)).Perm m.files
  nodup : (kv.map (·.2)).Nodup
  good : GoodB m

def footB (b r : Nat) (kv : List (Fi × Nat)) (c : Nat) : Prop := c = b ∨ c = r ∨ ∃ p ∈ kv, p.2 = c
def IsBox (h : Heap) (b : Nat) (S : Nat → Prop) (m : Bx) : Prop := ∃ r kv, BoxAt h b r kv m ∧ ∀ c, S c ↔ footB b r kv c

theorem BoxAt.ne_br {h : Heap} {b r : Nat} {kv : List (Fi × Nat)} {m : Bx} (B : BoxAt h b r kv m) : r ≠ b := by
  rintro rfl
  obtain ⟨es, cl, hr, _⟩ := B.map
  rw [B.head] at hr; cases hr
theorem BoxAt.ne_pb {h : Heap} {b r : Nat} {kv : List (Fi × Nat)} {m : Bx} (B : BoxAt h b r kv m) {p : Fi × Nat} (hp : p ∈ kv) : p.2 ≠ b ∧ p.2 ≠ r := by
  have h1 := B.cells p hp
  constructor
  · intro e; rw [e, B.head] at h1; cases h1
  · intro e
    obtain ⟨es, cl, hr, _⟩ := B.map
    rw [e, hr] at h1; cases h1
theorem BoxAt.lt {h : Heap} {b r : Nat} {kv : List (Fi × Nat)} {m : Bx} (B : BoxAt h b r kv m) {c : Nat} (hc : footB b r kv c) : c < h.size := by
  rcases hc with rfl | rfl | ⟨p, hp, rfl⟩
  · exact blk_lt B.head
  · exact B.map.lt
  · exact blk_lt (B.cells p hp)
theorem IsBox.lt {h : Heap} {b : Nat} {S : Nat → Prop} {m : Bx} (B : IsBox h b S m) {c : Nat} (hc : S c) : c < h.size := by
  obtain ⟨r, kv, B, hS⟩ := B
  exact B.lt ((hS c).1 hc)
theorem IsBox.good {h : Heap} {b : Nat} {S : Nat → Prop} {m : Bx} (B : IsBox h b S m) : GoodB m := by
  obtain ⟨r, kv, B, hS⟩ := B; exact B.good
theorem IsBox.self {h : Heap} {b : Nat} {S : Nat → Prop} {m : Bx} (B : IsBox h b S m) : S b := by
  obtain ⟨r, kv, B, hS⟩ := B; exact (hS b).2 (.inl rfl)
theorem BoxAt.mod {h h' : Heap} {b r : Nat} {kv : List (Fi × Nat)} {m : Bx} {T : Nat → Prop} (B : BoxAt h b r kv m) (x : Mod T h h') (hT : ∀ c, footB b r kv c → ¬ T c) : BoxAt h' b r kv m :=
  ⟨x.blk B.head (hT _ (.inl rfl)), B.map.mod x (hT _ (.inr (.inl rfl))), fun p hp => x.blk (B.cells p hp) (hT _ (.inr (.inr ⟨p, hp, rfl⟩))), B.perm, B.nodup, B.good⟩
theorem IsBox.mod {h h' : Heap} {b : Nat} {S T : Nat → Prop} {m : Bx} (B : IsBox h b S m) (x : Mod T h h') (hT : ∀ c, S c → ¬ T c) : IsBox h' b S m := by
  obtain ⟨r, kv, B, hS⟩ := B
  exact ⟨r, kv, B.mod x fun c hc => hT c ((hS c).2 hc), hS⟩
theorem IsBox.ext {h h' : Heap} {b : Nat} {S : Nat → Prop} {m : Bx} (B : IsBox h b S m) (x : Ext h h') : IsBox h' b S m := B.mod x fun _ _ h => h
theorem BoxAt.hd {h h' : Heap} {b r : Nat} {kv : List (Fi × Nat)} {m m' : Bx} (B : BoxAt h b r kv m) (hb : h'[b]? = some (.cells #[.map (some r), .int .i64 m'.fuel, .bool m'.down] t_box_Box (0, 0))) (x : Mod (· = b) h h') (hf : m'.files = m.files) (g : GoodB m') : BoxAt h' b r kv m' :=
  ⟨hb, B.map.mod x B.ne_br, fun p hp => x.blk (B.cells p hp) (B.ne_pb hp).1, by rw [hf]; exact B.perm, B.nodup, g⟩

/-! ### names -/
theorem look_kv (k : ByteArray) : ∀ kv : List (Fi × Nat), lookM k (kvM kv) = (kv.find? fun p => decide (p.1.name = k)).map fun p => ptrV p.2
  | [] => rfl
  | p :: kv => by
    show lookM k ((p.1.name, ptrV p.2) :: kvM kv) = _
    rw [lookM_cons, look_kv k kv, List.find?_cons]
    by_cases h : p.1.name = k <;> simp [h]
theorem BoxAt.mem {h : Heap} {b r : Nat} {kv : List (Fi × Nat)} {m : Bx} (B : BoxAt h b r kv m) {f : Fi} : f ∈ m.files ↔ ∃ c, (f, c) ∈ kv := by
  rw [← B.perm.mem_iff]
  constructor
  · intro h; obtain ⟨p, hp, rfl⟩ := List.mem_map.1 h; exact ⟨p.2, hp⟩
  · rintro ⟨c, hc⟩; exact List.mem_map.2 ⟨_, hc, rfl⟩
theorem BoxAt.look {h : Heap} {b r : Nat} {kv : List (Fi × Nat)} {m : Bx} (B : BoxAt h b r kv m) (k : ByteArray) :
    (lookM k (kvM kv) = none ∧ findF k m.files = none) ∨ ∃ p ∈ kv, lookM k (kvM kv) = some (ptrV p.2) ∧ findF k m.files = some p.1 ∧ p.1.name = k := by
  rw [look_kv]
  cases hf : kv.find? fun p => decide (p.1.name = k) with
  | none =>
    refine .inl ⟨rfl, findF_none' fun f hm => ?_⟩
    obtain ⟨c, hc⟩ := B.mem.1 hm
    rw [List.find?_eq_none] at hf
    simpa using hf _ hc
  | some p =>
    have h1 : p.1.name = k := by simpa using List.find?_some hf
    have h2 := List.mem_of_find?_eq_some hf
    refine .inr ⟨p, h2, rfl, ?_, h1⟩
    rw [← h1]
    exact B.good.sorted.find (B.mem.2 ⟨p.2, h2⟩)
theorem SortedF.uniq {l : List Fi} (s : SortedF l) {x y : Fi} (hx : x ∈ l) (hy : y ∈ l) (h : x.name = y.name) : x = y := by
  have h1 := s.find hx
  rw [h, s.find hy] at h1
  exact (Option.some.inj h1).symm
theorem names_nodup {kv : List (Fi × Nat)} {l : List Fi} (p : (kv.map (·.1)).Perm l) (s : SortedF l) : (kv.map fun q => q.1.name).Nodup := by
  have h1 : (l.map (·.name)).Nodup := by
    refine List.pairwise_map.2 (s.imp fun h => lt_ne h)
  have h2 : (kv.map fun q => q.1.name).Perm (l.map (·.name)) := by
    have := p.map (·.name)
    simpa [List.map_map, Function.comp_def] using this
  exact (h2.nodup_iff).2 h1
theorem BoxAt.inj {h : Heap} {b r : Nat} {kv : List (Fi × Nat)} {m : Bx} (B : BoxAt h b r kv m) {p q : Fi × Nat} (hp : p ∈ kv) (hq : q ∈ kv) (e : p.1.name = q.1.name) : p = q := by
  have hn := names_nodup B.perm B.good.sorted
  obtain ⟨i, hi, rfl⟩ := List.getElem_of_mem hp
  obtain ⟨j, hj, rfl⟩ := List.getElem_of_mem hq
  have : i = j := by
    have hi' : i < (kv.map fun q => q.1.name).length := by simpa using hi
    have hj' : j < (kv.map fun q => q.1.name).length := by simpa using hj
    refine (List.getElem_inj (h₀ := hi') (h₁ := hj') hn).1 ?_
    simpa using e
  subst this; rfl

/-- a file's cells have changed -/
theorem BoxAt.set {h h' : Heap} {b r : Nat} {kv : List (Fi × Nat)} {m : Bx} (B : BoxAt h b r kv m) {p : Fi × Nat} (hp : p ∈ kv) {g : Fi → Fi} (hg : ∀ f, (g f).name = f.name)
    (hc : h'[p.2]? = some (.cells #[.string (g p.1).firm, .string (g p.1).soft] t_box_file (0, 0))) (x : Mod (· = p.2) h h') (gd : GoodB { m with files := updF p.1.name g m.files }) :
    BoxAt h' b r (kv.map fun q => (if q.1.name = p.1.name then g q.1 else q.1, q.2)) { m with files := updF p.1.name g m.files } := by
  refine ⟨x.blk B.head (B.ne_pb hp).1.symm, ?_, ?_, ?_, ?_, gd⟩
  · have e : kvM (kv.map fun q => (if q.1.name = p.1.name then g q.1 else q.1, q.2)) = kvM kv := by
      simp only [kvM, List.map_map]
      refine List.map_congr_left fun q _ => ?_
      simp only [Function.comp]
      split <;> simp [hg]
    rw [e]
    exact B.map.mod x (B.ne_pb hp).2.symm
  · intro q hq
    obtain ⟨q', hq', rfl⟩ := List.mem_map.1 hq
    simp only
    by_cases e : q'.1.name = p.1.name
    · rw [if_pos e]
      have := B.inj hq' hp e
      subst this
      exact hc
    · rw [if_neg e]
      refine x.blk (B.cells q' hq') fun e2 => e ?_
      have hn := B.nodup
      obtain ⟨i, hi, rfl⟩ := List.getElem_of_mem hp
      obtain ⟨j, hj, rfl⟩ := List.getElem_of_mem hq'
      have : j = i := by
        have hi' : i < (kv.map (·.2)).length := by simpa using hi
        have hj' : j < (kv.map (·.2)).length := by simpa using hj
        refine (List.getElem_inj (h₀ := hj') (h₁ := hi') hn).1 ?_
        simpa using e2
      subst this; rfl
  · have h1 := B.perm.map fun f => if f.name = p.1.name then g f else f
    simpa [updF, List.map_map, Function.comp_def] using h1
  · simpa [List.map_map, Function.comp_def] using B.nodup
theorem foot_set {b r : Nat} {kv : List (Fi × Nat)} {g : Fi × Nat → Fi} (c : Nat) : footB b r (kv.map fun q => (g q, q.2)) c ↔ footB b r kv c := by
  unfold footB
  constructor
  · rintro (h | h | ⟨p, hp, rfl⟩)
    · exact .inl h
    · exact .inr (.inl h)
    · obtain ⟨q, hq, rfl⟩ := List.mem_map.1 hp
      exact .inr (.inr ⟨q, hq, rfl⟩)
  · rintro (h | h | ⟨p, hp, rfl⟩)
    · exact .inl h
    · exact .inr (.inl h)
    · exact .inr (.inr ⟨_, List.mem_map.2 ⟨p, hp, rfl⟩, rfl⟩)

theorem updM_new {k : ByteArray} {v : Value} : ∀ {m : List (ByteArray × Value)}, lookM k m = none → updM k v m = m ++ [(k, v)]
  | [], _ => rfl
  | p :: m, h => by
    rw [lookM_cons] at h
    split at h
    · cases h
    · rename_i hk
      unfold updM
      rw [if_neg hk, updM_new h]; rfl

/-! ### the small methods -/
theorem off_ok {A : Amb} {h : Heap} {b : Nat} {c0 c1 : Value} {down : Bool} {T : TypeId} {R : Value → Heap → Prop} (hb : h[b]? = some (.cells #[c0, c1, .bool down] T (0, 0))) (H : R (.bool down) h) :
    HCalls A P f_box_Box_off #[ptrV b] h R := by
  refine ok_box_Box_off ?_
  unfold F_box_Box_off
  exact PIf.no rfl (atI (LoadB.mk (hget_lit1 hb rfl) H))
theorem off_nil {A : Amb} {h : Heap} {R : Value → Heap → Prop} (H : R (.bool true) h) : HCalls A P f_box_Box_off #[.pointer none] h R := by
  refine ok_box_Box_off ?_
  unfold F_box_Box_off
  exact PIf.yes rfl H
theorem wrong_ok {A : Amb} {h : Heap} {name : ByteArray} {R : Value → Heap → Prop} (H : R (.bool (badName name)) h) : HCalls A P f_box_wrong #[.string name] h R := by
  refine ok_box_wrong ?_
  unfold F_box_wrong
  unfold badName at H
  rw [sEq_iff]
  refine PIf.intro (fun hq => ?_) (fun hq => ?_)
  · rw [hq] at H; exact H
  · rw [hq] at H
    have e : decide ((name.size : Int) > (32 : Int)) = decide (name.size > 32) := by rw [decide_eq_decide]; omega
    rw [e]; simpa using H

def burnF (fuel : Int) : Int := if fuel > 0 then fuel - 1 else fuel
theorem burn_ok {A : Amb} {h : Heap} {b : Nat} {c0 : Value} {fuel : Int} {down : Bool} {T : TypeId} {R : Value → Heap → Prop} (hb : h[b]? = some (.cells #[c0, .int .i64 fuel, .bool down] T (0, 0))) (lo : -1 ≤ fuel) (hi : fuel ≤ 9223372036854775807)
    (H1 : fuel = 0 → ∀ h', h'[b]? = some (.cells #[c0, .int .i64 fuel, .bool true] T (0, 0)) → Mod (· = b) h h' → h'.size = h.size → R (.bool false) h')
    (H2 : fuel ≠ 0 → ∀ h', h'[b]? = some (.cells #[c0, .int .i64 (burnF fuel), .bool down] T (0, 0)) → Mod (· = b) h h' → h'.size = h.size → R (.bool true) h') : HCalls A P f_box_Box_burn #[ptrV b] h R := by
  refine ok_box_Box_burn ?_
  unfold F_box_Box_burn
  refine atI (LoadI.mk (hget_lit1 hb rfl) ?_)
  refine PIf.intro (fun hq => ?_) (fun hq => ?_)
  · refine atI (Store.mk1 hb (by simp) fun h1 hb1 m1 hs1 => ?_)
    exact H1 (by simpa using hq) h1 (by simpa using hb1) m1 hs1
  · have hq : fuel ≠ 0 := by simpa using hq
    have H2 := H2 hq
    unfold burnF at H2
    refine Join.mk fun K hK => ?_
    refine atI (LoadI.mk (hget_lit1 hb rfl) ?_)
    refine PIf.intro (fun hq => ?_) (fun hq => ?_)
    · have hp : fuel > 0 := by simpa using hq
      rw [if_pos hp] at H2
      refine atI (LoadI.mk (hget_lit1 hb rfl) (atI (Store.mk1 hb (by simp) fun h1 hb1 m1 hs1 => hK _ _ ?_)))
      rw [wrap_i64 (by omega) (by omega)] at hb1
      exact H2 h1 (by simpa using hb1) m1 hs1
    · have hp : ¬ fuel > 0 := by simpa using hq
      rw [if_neg hp] at H2
      exact hK _ _ (H2 h hb Mod.refl rfl)

theorem tick_fuel (m : Bx) : (tickB m).fuel = burnF m.fuel ∧ (tickB m).down = m.down ∧ (tickB m).files = m.files := by
  unfold tickB burnF; split <;> simp
theorem goodB_tick {m : Bx} (g : GoodB m) : GoodB (tickB m) := by
  have := g.tick m.files g.sorted g.names g.wt
  rwa [← (tick_fuel m).2.2] at this
theorem BoxAt.burn {A : Amb} {h : Heap} {b r : Nat} {kv : List (Fi × Nat)} {m : Bx} (B : BoxAt h b r kv m) {R : Value → Heap → Prop}
    (H1 : m.fuel = 0 → ∀ h', BoxAt h' b r kv (offB m) → Mod (footB b r kv) h h' → R (.bool false) h')
    (H2 : m.fuel ≠ 0 → ∀ h', BoxAt h' b r kv (tickB m) → Mod (footB b r kv) h h' → h'.size = h.size → R (.bool true) h') : HCalls A P f_box_Box_burn #[ptrV b] h R := by
  refine burn_ok B.head B.good.lo B.good.hi (fun hz h1 hb1 m1 hs1 => ?_) (fun hz h1 hb1 m1 hs1 => ?_)
  · exact H1 hz h1 (B.hd hb1 m1 rfl B.good.off) (m1.weak fun c _ hc => .inl hc)
  · obtain ⟨e1, e2, e3⟩ := tick_fuel m
    refine H2 hz h1 (B.hd ?_ m1 e3 (goodB_tick B.good)) (m1.weak fun c _ hc => .inl hc) hs1
    rw [e1, e2]; exact hb1

/-! ### Append -/
theorem BoxAt.putSoft {h : Heap} {b r : Nat} {kv : List (Fi × Nat)} {m : Bx} (B : BoxAt h b r kv m) {p : Fi × Nat} (hp : p ∈ kv) {data : ByteArray} (gd : GoodB { m with files := updF p.1.name (addF data) m.files }) {K : Heap → Prop}
    (H : ∀ h' kv', BoxAt h' b r kv' { m with files := updF p.1.name (addF data) m.files } → Mod (footB b r kv) h h' → (∀ c, footB b r kv' c ↔ footB b r kv c) → K h') :
    At (some ⟨p.2, 0, none⟩) fun a1 => LoadS h (a1.add 1) fun t => Chk (((t.size + data.size : Nat) : Int) ≤ IntKind.i64.max) <| At (some ⟨p.2, 0, none⟩) fun a2 => Store h (a2.add 1) (.string (t ++ data)) K := by
  have hc := B.cells p hp
  refine atI (LoadS.mk (hget_lit1 hc rfl) ⟨?_, atI (Store.mk1 hc (by simp) fun h1 hb1 m1 hs1 => ?_)⟩)
  · have h1 : wtF (updF p.1.name (addF data) m.files) ≤ 1099511627776 := gd.wt
    have h2 : addF data p.1 ∈ updF p.1.name (addF data) m.files := by
      refine List.mem_map.2 ⟨p.1, B.mem.2 ⟨p.2, hp⟩, by simp⟩
    have h3 := wtF_mem h2
    simp only [addF, size_app] at h3
    simp [IntKind.max, IntKind.bits, IntKind.signed]
    omega
  · exact H h1 _ (B.set hp (g := addF data) (fun _ => rfl) (by simpa [addF] using hb1) m1 gd) (m1.weak fun c _ hc => .inr (.inr ⟨p, hp, hc.symm⟩)) (fun c => foot_set (g := fun q => if q.1.name = p.1.name then addF data q.1 else q.1) c)

theorem bAppend_ok {A : Amb} {h : Heap} {b : Nat} {S : Nat → Prop} {m : Bx} {name data : ByteArray} {R : Value → Heap → Prop} (B : IsBox h b S m) (hw : wtF m.files + data.size + 1 ≤ 1099511627776)
    (H : ∀ h' S', IsBox h' b S' (appendB m name data).2 → Mod S h h' → (∀ c, S' c → S c ∨ h.size ≤ c) → R (.int .i64 (appendB m name data).1) h') : HCalls A P f_box_Box_Append #[ptrV b, .string name, .string data] h R := by
  have hgood := B.good.append (name := name) (data := data) hw
  obtain ⟨r, kv, B, hS⟩ := B
  refine ok_box_Box_Append ?_
  unfold F_box_Box_Append
  refine off_ok B.head ⟨_, rfl, ?_⟩
  unfold appendB at H hgood
  refine PIf.intro (fun hd => ?_) (fun hd => ?_)
  · rw [if_pos hd] at H; exact H h S ⟨r, kv, B, hS⟩ Mod.refl (fun c hc => .inl hc)
  rw [if_neg (by simp [hd])] at H hgood
  refine wrong_ok ⟨_, rfl, ?_⟩
  refine PIf.intro (fun hn => ?_) (fun hn => ?_)
  · rw [if_pos hn] at H; exact H h S ⟨r, kv, B, hS⟩ Mod.refl (fun c hc => .inl hc)
  rw [if_neg (by simp [hn])] at H hgood
  have hmS : ∀ {h1 : Heap}, Mod (footB b r kv) h h1 → Mod S h h1 := fun m1 => m1.weak fun c _ hc => (hS c).2 hc
  refine B.burn (fun hz h1 B1 m1 => ⟨_, rfl, ?_⟩) (fun hz h1 B1 m1 hs1 => ⟨_, rfl, ?_⟩)
  · rw [if_pos hz] at H
    exact PIf.yes rfl (H h1 S ⟨r, kv, B1, hS⟩ (hmS m1) (fun c hc => .inl hc))
  rw [if_neg hz] at H hgood
  refine PIf.no rfl ?_
  refine atI (LoadM.mk (hget_lit B1.head rfl) (lookup_ok P_mpf P_str P_zpf B1.map ?_))
  rcases B1.look name with ⟨k1, k2⟩ | ⟨p, hp, k1, k2, k3⟩
  · -- a new file
    rw [k1]
    refine ⟨none, rfl, Join.mk fun K hK => PIf.yes rfl ?_⟩
    refine New.mk fun h2 _ hb2 x2 hs2 => ?_
    have B2 := B1.mod x2 (fun _ _ h => h)
    refine atI (LoadM.mk (hget_lit B2.head rfl) ?_)
    have hsz : name.size ≤ 32 := by simp [badName] at hn; omega
    have hlen := wtF_len (tickB m).files
    have hkl : kv.length = (tickB m).files.length := by rw [← B1.perm.length_eq]; simp
    rw [(tick_fuel m).2.2] at hkl
    have hl2 := wtF_len m.files
    refine update_ok P_mpf P_str B2.map (by simp [maxLen]; omega) (by simp [kvM, maxLen]; omega) fun h3 M3 m3 hs3 => ?_
    rw [updM_new k1] at M3
    have hb3 := m3.blk hb2 (by have := B1.map.lt; omega)
    have kf := k2
    rw [(tick_fuel m).2.2] at kf
    have hhave : haveF name m.files = insF ⟨name, bs0, bs0⟩ m.files := by unfold haveF; rw [kf]; rfl
    have hn2 := findF_none kf
    have hws := wtF_ins ⟨name, bs0, bs0⟩ m.files
    simp only [sz0] at hws
    have B3 : BoxAt h3 b r (kv ++ [(⟨name, bs0, bs0⟩, h1.size)]) { tickB m with files := insF ⟨name, bs0, bs0⟩ m.files } := by
      refine ⟨m3.blk B2.head B2.ne_br.symm, ?_, ?_, ?_, ?_, ?_⟩
      · rw [kvM, List.map_append]; exact M3
      · intro p hp
        rcases List.mem_append.1 hp with hp | hp
        · exact m3.blk (B2.cells p hp) (B2.ne_pb hp).2
        · simp at hp; subst hp; exact hb3
      · rw [List.map_append]
        refine (List.perm_append_singleton _ _).trans (((B1.perm.trans (List.Perm.of_eq (tick_fuel m).2.2)).cons _).trans (insF_perm _ _).symm)
      · rw [List.map_append]
        refine List.nodup_append.2 ⟨B1.nodup, by simp, ?_⟩
        intro a ha c hc
        obtain ⟨p, hp, rfl⟩ := List.mem_map.1 ha
        simp at hc; subst hc
        have := blk_lt (B1.cells p hp); omega
      · refine B.good.tick _ (insF_sorted B.good.sorted hn2) (fun f hf => ?_) (by omega)
        rcases List.mem_cons.1 ((insF_perm _ _).subset hf) with rfl | hf
        · exact hsz
        · exact B.good.names f hf
    refine hK _ _ ?_
    rw [hhave] at H hgood
    refine B3.putSoft (p := (⟨name, bs0, bs0⟩, h1.size)) (by simp) (data := data) hgood fun h4 kv4 B4 m4 e4 => ?_
    have hf4 : ∀ c, footB b r kv4 c → footB b r kv c ∨ h.size ≤ c := fun c hc => by
      rcases (e4 c).1 hc with h | h | ⟨p, hp, rfl⟩
      · exact .inl (.inl h)
      · exact .inl (.inr (.inl h))
      · rcases List.mem_append.1 hp with hp | hp
        · exact .inl (.inr (.inr ⟨p, hp, rfl⟩))
        · simp at hp; subst hp; exact .inr (by have := m1.size; simpa using this)
    refine H h4 (footB b r kv4) ⟨r, kv4, B4, fun _ => Iff.rfl⟩ ?_ (fun c hc => (hf4 c hc).imp (hS c).2 id)
    have m13 : Mod (footB b r kv) h1 h3 := x2.mod.trans (m3.weak fun c _ hc => .inr (.inl hc))
    refine hmS ((m1.trans m13).then (m4.weak fun c _ hc => hf4 c ((e4 c).2 hc)))
  · -- a file that is there
    rw [k1]
    refine ⟨some ⟨p.2, 0, none⟩, rfl, Join.mk fun K hK => PIf.no rfl (hK _ _ ?_)⟩
    have kf := k2
    rw [(tick_fuel m).2.2] at kf
    have hhave : haveF name m.files = m.files := by unfold haveF; rw [kf]; rfl
    rw [hhave] at H hgood
    subst k3
    have e3 := (tick_fuel m).2.2
    refine B1.putSoft hp (data := data) (by rw [e3]; exact hgood) fun h4 kv4 B4 m4 e4 => ?_
    refine H h4 S ⟨r, kv4, by rw [e3] at B4; exact B4, fun c => (hS c).trans (e4 c).symm⟩ (hmS (m1.trans m4)) (fun c hc => .inl hc)

/-! ### Sync -/
theorem bSync_ok {A : Amb} {h : Heap} {b : Nat} {S : Nat → Prop} {m : Bx} {name : ByteArray} {R : Value → Heap → Prop} (B : IsBox h b S m)
    (H : ∀ h', IsBox h' b S (syncB m name).2 → Mod S h h' → R (.int .i64 (syncB m name).1) h') : HCalls A P f_box_Box_Sync #[ptrV b, .string name] h R := by
  have hgood := B.good.sync (name := name)
  obtain ⟨r, kv, B, hS⟩ := B
  refine ok_box_Box_Sync ?_
  unfold F_box_Box_Sync
  refine off_ok B.head ⟨_, rfl, ?_⟩
  unfold syncB at H hgood
  have hmS : ∀ {h1 : Heap}, Mod (footB b r kv) h h1 → Mod S h h1 := fun m1 => m1.weak fun c _ hc => (hS c).2 hc
  refine PIf.intro (fun hd => ?_) (fun hd => ?_)
  · rw [if_pos hd] at H; exact H h ⟨r, kv, B, hS⟩ Mod.refl
  rw [if_neg (by simp [hd])] at H hgood
  refine atI (LoadM.mk (hget_lit B.head rfl) (lookup_ok P_mpf P_str P_zpf B.map ?_))
  rcases B.look name with ⟨k1, k2⟩ | ⟨p, hp, k1, k2, k3⟩
  · rw [k1]
    rw [k2] at H
    exact ⟨none, rfl, PIf.yes rfl (H h ⟨r, kv, B, hS⟩ Mod.refl)⟩
  rw [k1]
  rw [k2, if_neg (by simp)] at H hgood
  refine ⟨some ⟨p.2, 0, none⟩, rfl, PIf.no rfl ?_⟩
  refine B.burn (fun hz h1 B1 m1 => ⟨_, rfl, ?_⟩) (fun hz h1 B1 m1 hs1 => ⟨_, rfl, ?_⟩)
  · rw [if_pos hz] at H
    exact PIf.yes rfl (H h1 ⟨r, kv, B1, hS⟩ (hmS m1))
  rw [if_neg hz] at H hgood
  refine PIf.no rfl ?_
  refine atI (LoadM.mk (hget_lit B1.head rfl) (lookup_ok P_mpf P_str P_zpf B1.map ?_))
  rw [k1]
  refine ⟨some ⟨p.2, 0, none⟩, rfl, ?_⟩
  have hc := B1.cells p hp
  refine atI (LoadS.mk (hget_lit hc rfl) (atI (LoadS.mk (hget_lit1 hc rfl) ⟨?_, ?_⟩)))
  · have h3 := wtF_mem (findF_some k2).2
    have := B.good.wt
    simp [IntKind.max, IntKind.bits, IntKind.signed]; omega
  refine atI (Store.mk hc (by simp) fun h2 hb2 m2 hs2 => atI (Store.mk1 hb2 (by simp) fun h3 hb3 m3 hs3 => ?_))
  subst k3
  have e3 := (tick_fuel m).2.2
  have B3 := B1.set hp (h' := h3) (g := firmF) (fun _ => rfl) (by simpa [firmF] using hb3) (m2.trans m3) (by rw [e3]; exact hgood)
  rw [e3] at B3
  refine H h3 ⟨r, _, B3, fun c => (hS c).trans (foot_set (g := fun q => if q.1.name = p.1.name then firmF q.1 else q.1) c).symm⟩ (hmS (m1.trans ((m2.trans m3).weak fun c _ hc => .inr (.inr ⟨p, hp, hc.symm⟩))))

/-! ### Read -/
theorem bRead_ok {A : Amb} {h : Heap} {b : Nat} {S : Nat → Prop} {m : Bx} {name : ByteArray} {R : Value → Heap → Prop} (B : IsBox h b S m)
    (H : R (.tuple #[.string (readB m name).1, .int .i64 (readB m name).2]) h) : HCalls A P f_box_Box_Read #[ptrV b, .string name] h R := by
  obtain ⟨r, kv, B, hS⟩ := B
  refine ok_box_Box_Read ?_
  unfold F_box_Box_Read
  refine off_ok B.head ⟨_, rfl, ?_⟩
  unfold readB at H
  refine PIf.intro (fun hd => ?_) (fun hd => ?_)
  · rw [if_pos hd] at H; exact H
  rw [if_neg (by simp [hd])] at H
  refine atI (LoadM.mk (hget_lit B.head rfl) (lookup_ok P_mpf P_str P_zpf B.map ?_))
  rcases B.look name with ⟨k1, k2⟩ | ⟨p, hp, k1, k2, k3⟩
  · rw [k1]
    rw [k2] at H
    exact ⟨none, rfl, PIf.yes rfl H⟩
  rw [k1]
  rw [k2] at H
  refine ⟨some ⟨p.2, 0, none⟩, rfl, PIf.no rfl ?_⟩
  have hc := B.cells p hp
  refine atI (LoadS.mk (hget_lit hc rfl) (atI (LoadS.mk (hget_lit1 hc rfl) ⟨?_, H⟩)))
  have h3 := wtF_mem (findF_some k2).2
  have := B.good.wt
  simp [IntKind.max, IntKind.bits, IntKind.signed]; omega

/-! ### Delete -/
theorem delM_kv (k : ByteArray) (kv : List (Fi × Nat)) : delM k (kvM kv) = kvM (kv.filter fun p => !decide (p.1.name = k)) := by
  unfold delM kvM
  rw [List.filter_map]; rfl
theorem bDelete_ok {A : Amb} {h : Heap} {b : Nat} {S : Nat → Prop} {m : Bx} {name : ByteArray} {R : Value → Heap → Prop} (B : IsBox h b S m)
    (H : ∀ h' S', IsBox h' b S' (deleteB m name).2 → Mod S h h' → (∀ c, S' c → S c) → R (.int .i64 (deleteB m name).1) h') : HCalls A P f_box_Box_Delete #[ptrV b, .string name] h R := by
  have hgood := B.good.delete (name := name)
  obtain ⟨r, kv, B, hS⟩ := B
  refine ok_box_Box_Delete ?_
  unfold F_box_Box_Delete
  refine off_ok B.head ⟨_, rfl, ?_⟩
  unfold deleteB at H hgood
  have hmS : ∀ {h1 : Heap}, Mod (footB b r kv) h h1 → Mod S h h1 := fun m1 => m1.weak fun c _ hc => (hS c).2 hc
  refine PIf.intro (fun hd => ?_) (fun hd => ?_)
  · rw [if_pos hd] at H; exact H h S ⟨r, kv, B, hS⟩ Mod.refl (fun _ h => h)
  rw [if_neg (by simp [hd])] at H hgood
  refine atI (LoadM.mk (hget_lit B.head rfl) (lookup_ok P_mpf P_str P_zpf B.map ?_))
  rcases B.look name with ⟨k1, k2⟩ | ⟨p, hp, k1, k2, k3⟩
  · rw [k1]
    rw [k2] at H
    exact ⟨none, rfl, PIf.yes rfl (H h S ⟨r, kv, B, hS⟩ Mod.refl (fun _ h => h))⟩
  rw [k1]
  rw [k2, if_neg (by simp)] at H hgood
  refine ⟨some ⟨p.2, 0, none⟩, rfl, PIf.no rfl ?_⟩
  refine B.burn (fun hz h1 B1 m1 => ⟨_, rfl, ?_⟩) (fun hz h1 B1 m1 hs1 => ⟨_, rfl, ?_⟩)
  · rw [if_pos hz] at H
    exact PIf.yes rfl (H h1 S ⟨r, kv, B1, hS⟩ (hmS m1) (fun _ h => h))
  rw [if_neg hz] at H hgood
  refine PIf.no rfl ?_
  refine atI (LoadM.mk (hget_lit B1.head rfl) (delete_ok P_mpf P_str B1.map fun h2 M2 m2 hs2 => ⟨rfl, ?_⟩))
  rw [delM_kv] at M2
  have e3 := (tick_fuel m).2.2
  have B2 : BoxAt h2 b r (kv.filter fun p => !decide (p.1.name = name)) { tickB m with files := delF name m.files } := by
    refine ⟨m2.blk B1.head B1.ne_br.symm, M2, fun q hq => ?_, ?_, ?_, hgood⟩
    · have hq := (List.mem_filter.1 hq).1
      exact m2.blk (B1.cells q hq) (B1.ne_pb hq).2
    · have h1 := B.perm.filter fun f => !decide (f.name = name)
      rw [List.filter_map] at h1
      exact h1
    · exact (List.filter_sublist.map _).nodup B.nodup
  refine H h2 (footB b r _) ⟨r, _, B2, fun _ => Iff.rfl⟩ (hmS (m1.trans (m2.weak fun c _ hc => .inr (.inl hc)))) (fun c hc => (hS c).2 ?_)
  rcases hc with h | h | ⟨p, hp, rfl⟩
  · exact .inl h
  · exact .inr (.inl h)
  · exact .inr (.inr ⟨p, (List.mem_filter.1 hp).1, rfl⟩)

/-! ### Fuel, New -/
theorem bNew_ok {A : Amb} {h : Heap} {R : Value → Heap → Prop} (H : ∀ b h' S, IsBox h' b S newB → Ext h h' → (∀ c, S c → h.size ≤ c) → R (ptrV b) h') : HCalls A P f_box_New #[] h R := by
  refine ok_box_New ?_
  unfold F_box_New
  refine New.mk fun h1 _ hb1 x1 hs1 => New.mk fun h2 _ hb2 x2 hs2 => ?_
  refine H _ h2 (footB h1.size h.size []) ⟨_, [], ⟨hb2, MapS.empty (x2.blk hb1 (by simp)), by simp, List.Perm.refl _, by simp, goodB_new⟩, fun _ => Iff.rfl⟩ (x1.trans x2) ?_
  rintro c (rfl | rfl | ⟨p, hp, _⟩)
  · omega
  · exact Nat.le_refl _
  · cases hp
end Go.Lf.G
