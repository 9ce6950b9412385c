/-
 Contracts: the box (chapter 3): its state in memory; its small methods; Append, Sync, Read, Delete.
-/
import Derived.Test.YteecdmkgblonnaaGreatDoorLfU2ToV2
import Derived.Shelf.Strings.Repeat
import Derived.Shelf.Small.Wraps
import Derived.Shelf.Pu.ParseUintPublic10
import Derived.Shelf.Strconv.Itoa3
import Derived.Shelf.Strconv.AtoiAll
import Derived.Shelf.Strings.BuilderK
import Derived.Test.YteecdmkgblonnaaGreatDoorProg
import Derived.Test.YteecdmkgblonnaaGreatDoorLfU1ToU9
import Derived.Lib.ItoaNum
import Derived.Lib.Repeat
import Derived.Lib.ParseIntB
set_option linter.unusedVariables false
set_option linter.unusedSimpArgs false
set_option maxRecDepth 100000
set_option linter.unusedVariables false
set_option linter.unusedSimpArgs false
namespace Go.Lf.G
open Go
theorem LoadM.mk {h : Heap} {a : Addr} {K : Option Nat → Prop} {n : Option Nat} (hv : hget h a = some (.map n)) (H : K n) : LoadM h a K := ⟨n, hv, H⟩
theorem P_mpf : P.underlying t_map_string_p_box_file = some (.map t_string t_p_box_file) := by kernel_rfl
theorem P_zpf : (zeroValue t_p_box_file).calc P = some (.pointer none) := by kernel_rfl
abbrev kvM (kv : List (Fi × Nat)) : List (ByteArray × Value) := kv.map fun p => (p.1.name, ptrV p.2)
structure BoxAt (h : Heap) (b r : Nat) (kv : List (Fi × Nat)) (m : Bx) : Prop where
 head : h[b]? = some (.cells #[.map (some r), .int .i64 m.fuel, .bool m.down] t_box_Box (0, 0))
 map : MapS h r (kvM kv)
 cells : ∀ p ∈ kv, h[p.2]? = some (.cells #[.string p.1.firm, .string p.1.soft] t_box_file (0, 0))
 perm : (kv.map (·.1)).Perm m.files
 nodup : (kv.map (·.2)).Nodup
 good : GoodB m
def footB (b r : Nat) (kv : List (Fi × Nat)) (c : Nat) : Prop := c = b ∨ c = r ∨ ∃ p ∈ kv, p.2 = c
def IsBox (h : Heap) (b : Nat) (S : Nat → Prop) (m : Bx) : Prop := ∃ r kv, BoxAt h b r kv m ∧ ∀ c, S c ↔ footB b r kv c
theorem BoxAt.ne_br {h : Heap} {b r : Nat} {kv : List (Fi × Nat)} {m : Bx} (B : BoxAt h b r kv m) : r ≠ b := by
 rintro rfl
 obtain ⟨es, cl, hr, _⟩ := B.map
 rw [B.head] at hr; cases hr
theorem BoxAt.ne_pb {h : Heap} {b r : Nat} {kv : List (Fi × Nat)} {m : Bx} (B : BoxAt h b r kv m) {p : Fi × Nat} (hp : p ∈ kv) : p.2 ≠ b ∧ p.2 ≠ r := by
 have h1 := B.cells p hp
 constructor
 ·intro e; rw [e, B.head] at h1; cases h1
 ·intro e
  obtain ⟨es, cl, hr, _⟩ := B.map
  rw [e, hr] at h1; cases h1
theorem BoxAt.lt {h : Heap} {b r : Nat} {kv : List (Fi × Nat)} {m : Bx} (B : BoxAt h b r kv m) {c : Nat} (hc : footB b r kv c) : c < h.size := by
 rcases hc with rfl | rfl | ⟨p, hp, rfl⟩
 ·exact blk_lt B.head
 ·exact B.map.lt
 ·exact blk_lt (B.cells p hp)
theorem IsBox.lt {h : Heap} {b : Nat} {S : Nat → Prop} {m : Bx} (B : IsBox h b S m) {c : Nat} (hc : S c) : c < h.size := by
 obtain ⟨r, kv, B, hS⟩ := B
 exact B.lt ((hS c).1 hc)
theorem IsBox.good {h : Heap} {b : Nat} {S : Nat → Prop} {m : Bx} (B : IsBox h b S m) : GoodB m := by
 obtain ⟨r, kv, B, hS⟩ := B; exact B.good
theorem BoxAt.mod {h h' : Heap} {b r : Nat} {kv : List (Fi × Nat)} {m : Bx} {T : Nat → Prop} (B : BoxAt h b r kv m) (x : Mod T h h') (hT : ∀ c, footB b r kv c → ¬ T c) : BoxAt h' b r kv m :=
 ⟨x.blk B.head (hT _ (.inl rfl)), B.map.mod x (hT _ (.inr (.inl rfl))), fun p hp => x.blk (B.cells p hp) (hT _ (.inr (.inr ⟨p, hp, rfl⟩))), B.perm, B.nodup, B.good⟩
theorem IsBox.mod {h h' : Heap} {b : Nat} {S T : Nat → Prop} {m : Bx} (B : IsBox h b S m) (x : Mod T h h') (hT : ∀ c, S c → ¬ T c) : IsBox h' b S m := by
 obtain ⟨r, kv, B, hS⟩ := B
 exact ⟨r, kv, B.mod x fun c hc => hT c ((hS c).2 hc), hS⟩
theorem IsBox.ext {h h' : Heap} {b : Nat} {S : Nat → Prop} {m : Bx} (B : IsBox h b S m) (x : Ext h h') : IsBox h' b S m := B.mod x fun _ _ h => h
theorem BoxAt.hd {h h' : Heap} {b r : Nat} {kv : List (Fi × Nat)} {m m' : Bx} (B : BoxAt h b r kv m) (hb : h'[b]? = some (.cells #[.map (some r), .int .i64 m'.fuel, .bool m'.down] t_box_Box (0, 0))) (x : Mod (· = b) h h') (hf : m'.files = m.files) (g : GoodB m') : BoxAt h' b r kv m' :=
 ⟨hb, B.map.mod x B.ne_br, fun p hp => x.blk (B.cells p hp) (B.ne_pb hp).1, by rw [hf]; exact B.perm, B.nodup, g⟩
/-! ### names -/
theorem look_kv (k : ByteArray) : ∀ kv : List (Fi × Nat), lookM k (kvM kv) = (kv.find? fun p => decide (p.1.name = k)).map fun p => ptrV p.2
 | [] => rfl
 | p :: kv => by
  show lookM k ((p.1.name, ptrV p.2) :: kvM kv) = _
  rw [lookM_cons, look_kv k kv, List.find?_cons]
  by_cases h : p.1.name = k <;> simp [h]
theorem BoxAt.mem {h : Heap} {b r : Nat} {kv : List (Fi × Nat)} {m : Bx} (B : BoxAt h b r kv m) {f : Fi} : f ∈ m.files ↔ ∃ c, (f, c) ∈ kv := by
 rw [← B.perm.mem_iff]
 constructor
 ·intro h; obtain ⟨p, hp, rfl⟩ := List.mem_map.1 h; exact ⟨p.2, hp⟩
 ·rintro ⟨c, hc⟩; exact List.mem_map.2 ⟨_, hc, rfl⟩
theorem BoxAt.look {h : Heap} {b r : Nat} {kv : List (Fi × Nat)} {m : Bx} (B : BoxAt h b r kv m) (k : ByteArray) :
  (lookM k (kvM kv) = none ∧ findF k m.files = none) ∨ ∃ p ∈ kv, lookM k (kvM kv) = some (ptrV p.2) ∧ findF k m.files = some p.1 ∧ p.1.name = k := by
 rw [look_kv]
 cases hf : kv.find? fun p => decide (p.1.name = k) with
 | none =>
  refine .inl ⟨rfl, findF_none' fun f hm => ?_⟩
  obtain ⟨c, hc⟩ := B.mem.1 hm
  rw [List.find?_eq_none] at hf
  simpa using hf _ hc
 | some p =>
  have h1 : p.1.name = k := by simpa using List.find?_some hf
  have h2 := List.mem_of_find?_eq_some hf
  refine .inr ⟨p, h2, rfl, ?_, h1⟩
  rw [← h1]
  exact B.good.sorted.find (B.mem.2 ⟨p.2, h2⟩)
theorem SortedF.uniq {l : List Fi} (s : SortedF l) {x y : Fi} (hx : x ∈ l) (hy : y ∈ l) (h : x.name = y.name) : x = y := by
 have h1 := s.find hx
 rw [h, s.find hy] at h1
 exact (Option.some.inj h1).symm
theorem names_nodup {kv : List (Fi × Nat)} {l : List Fi} (p : (kv.map (·.1)).Perm l) (s : SortedF l) : (kv.map fun q => q.1.name).Nodup := by
 have h1 : (l.map (·.name)).Nodup := by
  refine List.pairwise_map.2 (s.imp fun h => lt_ne h)
 have h2 : (kv.map fun q => q.1.name).Perm (l.map (·.name)) := by
  have := p.map (·.name)
  simpa [List.map_map, Function.comp_def] using this
 exact (h2.nodup_iff).2 h1
theorem BoxAt.inj {h : Heap} {b r : Nat} {kv : List (Fi × Nat)} {m : Bx} (B : BoxAt h b r kv m) {p q : Fi × Nat} (hp : p ∈ kv) (hq : q ∈ kv) (e : p.1.name = q.1.name) : p = q := by
 have hn := names_nodup B.perm B.good.sorted
 obtain ⟨i, hi, rfl⟩ := List.getElem_of_mem hp
 obtain ⟨j, hj, rfl⟩ := List.getElem_of_mem hq
 have : i = j := by
  have hi' : i < (kv.map fun q => q.1.name).length := by simpa using hi
  have hj' : j < (kv.map fun q => q.1.name).length := by simpa using hj
  refine (List.getElem_inj (h₀ := hi') (h₁ := hj') hn).1 ?_
  simpa using e
 subst this; rfl
/-- a file's cells have changed -/
theorem BoxAt.set {h h' : Heap} {b r : Nat} {kv : List (Fi × Nat)} {m : Bx} (B : BoxAt h b r kv m) {p : Fi × Nat} (hp : p ∈ kv) {g : Fi → Fi} (hg : ∀ f, (g f).name = f.name)
  (hc : h'[p.2]? = some (.cells #[.string (g p.1).firm, .string (g p.1).soft] t_box_file (0, 0))) (x : Mod (· = p.2) h h') (gd : GoodB { m with files := updF p.1.name g m.files }) :
  BoxAt h' b r (kv.map fun q => (if q.1.name = p.1.name then g q.1 else q.1, q.2)) { m with files := updF p.1.name g m.files } := by
 refine ⟨x.blk B.head (B.ne_pb hp).1.symm, ?_, ?_, ?_, ?_, gd⟩
 ·have e : kvM (kv.map fun q => (if q.1.name = p.1.name then g q.1 else q.1, q.2)) = kvM kv := by
   simp only [kvM, List.map_map]
   refine List.map_congr_left fun q _ => ?_
   simp only [Function.comp]
   split <;> simp [hg]
  rw [e]
  exact B.map.mod x (B.ne_pb hp).2.symm
 ·intro q hq
  obtain ⟨q', hq', rfl⟩ := List.mem_map.1 hq
  simp only
  by_cases e : q'.1.name = p.1.name
  ·rw [if_pos e]
   have := B.inj hq' hp e
   subst this
   exact hc
  ·rw [if_neg e]
   refine x.blk (B.cells q' hq') fun e2 => e ?_
   have hn := B.nodup
   obtain ⟨i, hi, rfl⟩ := List.getElem_of_mem hp
   obtain ⟨j, hj, rfl⟩ := List.getElem_of_mem hq'
   have : j = i := by
    have hi' : i < (kv.map (·.2)).length := by simpa using hi
    have hj' : j < (kv.map (·.2)).length := by simpa using hj
    refine (List.getElem_inj (h₀ := hj') (h₁ := hi') hn).1 ?_
    simpa using e2
   subst this; rfl
 ·have h1 := B.perm.map fun f => if f.name = p.1.name then g f else f
  simpa [updF, List.map_map, Function.comp_def] using h1
 ·simpa [List.map_map, Function.comp_def] using B.nodup
theorem foot_set {b r : Nat} {kv : List (Fi × Nat)} {g : Fi × Nat → Fi} (c : Nat) : footB b r (kv.map fun q => (g q, q.2)) c ↔ footB b r kv c := by
 unfold footB
 constructor
 ·rintro (h | h | ⟨p, hp, rfl⟩)
  ·exact .inl h
  ·exact .inr (.inl h)
  ·obtain ⟨q, hq, rfl⟩ := List.mem_map.1 hp
   exact .inr (.inr ⟨q, hq, rfl⟩)
 ·rintro (h | h | ⟨p, hp, rfl⟩)
  ·exact .inl h
  ·exact .inr (.inl h)
  ·exact .inr (.inr ⟨_, List.mem_map.2 ⟨p, hp, rfl⟩, rfl⟩)
theorem updM_new {k : ByteArray} {v : Value} : ∀ {m : List (ByteArray × Value)}, lookM k m = none → updM k v m = m ++ [(k, v)]
 | [], _ => rfl
 | p :: m, h => by
  rw [lookM_cons] at h
  split at h
  ·cases h
  ·rename_i hk
   unfold updM
   rw [if_neg hk, updM_new h]; rfl
/-! ### the small methods -/
theorem off_ok {A : Amb} {h : Heap} {b : Nat} {c0 c1 : Value} {down : Bool} {T : TypeId} {R : Value → Heap → Prop} (hb : h[b]? = some (.cells #[c0, c1, .bool down] T (0, 0))) (H : R (.bool down) h) :
  HCalls A P f_box_Box_off #[ptrV b] h R := by
 refine ok_box_Box_off ?_
 unfold F_box_Box_off
 exact PIf.no rfl (atI (LoadB.mk (hget_lit1 hb rfl) H))
theorem wrong_ok {A : Amb} {h : Heap} {name : ByteArray} {R : Value → Heap → Prop} (H : R (.bool (badName name)) h) : HCalls A P f_box_wrong #[.string name] h R := by
 refine ok_box_wrong ?_
 unfold F_box_wrong
 unfold badName at H
 rw [sEq_iff]
 refine PIf.intro (fun hq => ?_) (fun hq => ?_)
 ·rw [hq] at H; exact H
 ·rw [hq] at H
  have e : decide ((name.size : Int) > (32 : Int)) = decide (name.size > 32) := by rw [decide_eq_decide]; omega
  rw [e]; simpa using H
def burnF (fuel : Int) : Int := if fuel > 0 then fuel - 1 else fuel
theorem burn_ok {A : Amb} {h : Heap} {b : Nat} {c0 : Value} {fuel : Int} {down : Bool} {T : TypeId} {R : Value → Heap → Prop} (hb : h[b]? = some (.cells #[c0, .int .i64 fuel, .bool down] T (0, 0))) (lo : -1 ≤ fuel) (hi : fuel ≤ 9223372036854775807)
  (H1 : fuel = 0 → ∀ h', h'[b]? = some (.cells #[c0, .int .i64 fuel, .bool true] T (0, 0)) → Mod (· = b) h h' → h'.size = h.size → R (.bool false) h')
  (H2 : fuel ≠ 0 → ∀ h', h'[b]? = some (.cells #[c0, .int .i64 (burnF fuel), .bool down] T (0, 0)) → Mod (· = b) h h' → h'.size = h.size → R (.bool true) h') : HCalls A P f_box_Box_burn #[ptrV b] h R := by
 refine ok_box_Box_burn ?_
 unfold F_box_Box_burn
 refine atI (LoadI.mk (hget_lit1 hb rfl) ?_)
 refine PIf.intro (fun hq => ?_) (fun hq => ?_)
 ·refine atI (Store.mk1 hb (by simp) fun h1 hb1 m1 hs1 => ?_)
  exact H1 (by simpa using hq) h1 (by simpa using hb1) m1 hs1
 ·have hq : fuel ≠ 0 := by simpa using hq
  have H2 := H2 hq
  unfold burnF at H2
  refine Join.mk fun K hK => ?_
  refine atI (LoadI.mk (hget_lit1 hb rfl) ?_)
  refine PIf.intro (fun hq => ?_) (fun hq => ?_)
  ·have hp : fuel > 0 := by simpa using hq
   rw [if_pos hp] at H2
   refine atI (LoadI.mk (hget_lit1 hb rfl) (atI (Store.mk1 hb (by simp) fun h1 hb1 m1 hs1 => hK _ _ ?_)))
   rw [wrap_i64 (by omega) (by omega)] at hb1
   exact H2 h1 (by simpa using hb1) m1 hs1
  ·have hp : ¬ fuel > 0 := by simpa using hq
   rw [if_neg hp] at H2
   exact hK _ _ (H2 h hb Mod.refl rfl)
theorem tick_fuel (m : Bx) : (tickB m).fuel = burnF m.fuel ∧ (tickB m).down = m.down ∧ (tickB m).files = m.files := by
 unfold tickB burnF; split <;> simp
theorem goodB_tick {m : Bx} (g : GoodB m) : GoodB (tickB m) := by
 have := g.tick m.files g.sorted g.names g.wt
 rwa [← (tick_fuel m).2.2] at this
theorem BoxAt.burn {A : Amb} {h : Heap} {b r : Nat} {kv : List (Fi × Nat)} {m : Bx} (B : BoxAt h b r kv m) {R : Value → Heap → Prop}
  (H1 : m.fuel = 0 → ∀ h', BoxAt h' b r kv (offB m) → Mod (footB b r kv) h h' → R (.bool false) h')
  (H2 : m.fuel ≠ 0 → ∀ h', BoxAt h' b r kv (tickB m) → Mod (footB b r kv) h h' → h'.size = h.size → R (.bool true) h') : HCalls A P f_box_Box_burn #[ptrV b] h R := by
 refine burn_ok B.head B.good.lo B.good.hi (fun hz h1 hb1 m1 hs1 => ?_) (fun hz h1 hb1 m1 hs1 => ?_)
 ·exact H1 hz h1 (B.hd hb1 m1 rfl B.good.off) (m1.weak fun c _ hc => .inl hc)
 ·obtain ⟨e1, e2, e3⟩ := tick_fuel m
  refine H2 hz h1 (B.hd ?_ m1 e3 (goodB_tick B.good)) (m1.weak fun c _ hc => .inl hc) hs1
  rw [e1, e2]; exact hb1
/-! ### Append -/
theorem BoxAt.putSoft {h : Heap} {b r : Nat} {kv : List (Fi × Nat)} {m : Bx} (B : BoxAt h b r kv m) {p : Fi × Nat} (hp : p ∈ kv) {data : ByteArray} (gd : GoodB { m with files := updF p.1.name (addF data) m.files }) {K : Heap → Prop}
  (H : ∀ h' kv', BoxAt h' b r kv' { m with files := updF p.1.name (addF data) m.files } → Mod (footB b r kv) h h' → (∀ c, footB b r kv' c ↔ footB b r kv c) → K h') :
  At (some ⟨p.2, 0, none⟩) fun a1 => LoadS h (a1.add 1) fun t => Chk (((t.size + data.size : Nat) : Int) ≤ IntKind.i64.max) <| At (some ⟨p.2, 0, none⟩) fun a2 => Store h (a2.add 1) (.string (t ++ data)) K := by
 have hc := B.cells p hp
 refine atI (LoadS.mk (hget_lit1 hc rfl) ⟨?_, atI (Store.mk1 hc (by simp) fun h1 hb1 m1 hs1 => ?_)⟩)
 ·have h1 : wtF (updF p.1.name (addF data) m.files) ≤ 8796093022208 := gd.wt
  have h2 : addF data p.1 ∈ updF p.1.name (addF data) m.files := by
   refine List.mem_map.2 ⟨p.1, B.mem.2 ⟨p.2, hp⟩, by simp⟩
  have h3 := wtF_mem h2
  simp only [addF, size_app] at h3
  simp [IntKind.max, IntKind.bits, IntKind.signed]
  omega
 ·exact H h1 _ (B.set hp (g := addF data) (fun _ => rfl) (by simpa [addF] using hb1) m1 gd) (m1.weak fun c _ hc => .inr (.inr ⟨p, hp, hc.symm⟩)) (fun c => foot_set (g := fun q => if q.1.name = p.1.name then addF data q.1 else q.1) c)
theorem bAppend_ok {A : Amb} {h : Heap} {b : Nat} {S : Nat → Prop} {m : Bx} {name data : ByteArray} {R : Value → Heap → Prop} (B : IsBox h b S m) (hw : wtF m.files + data.size + 1 ≤ 8796093022208)
  (H : ∀ h' S', IsBox h' b S' (appendB m name data).2 → Mod S h h' → (∀ c, S' c → S c ∨ h.size ≤ c) → R (.int .i64 (appendB m name data).1) h') : HCalls A P f_box_Box_Append #[ptrV b, .string name, .string data] h R := by
 have hgood := B.good.append (name := name) (data := data) hw
 obtain ⟨r, kv, B, hS⟩ := B
 refine ok_box_Box_Append ?_
 unfold F_box_Box_Append
 refine off_ok B.head ⟨_, rfl, ?_⟩
 unfold appendB at H hgood
 refine PIf.intro (fun hd => ?_) (fun hd => ?_)
 ·rw [if_pos hd] at H; exact H h S ⟨r, kv, B, hS⟩ Mod.refl (fun c hc => .inl hc)
 rw [if_neg (by simp [hd])] at H hgood
 refine wrong_ok ⟨_, rfl, ?_⟩
 refine PIf.intro (fun hn => ?_) (fun hn => ?_)
 ·rw [if_pos hn] at H; exact H h S ⟨r, kv, B, hS⟩ Mod.refl (fun c hc => .inl hc)
 rw [if_neg (by simp [hn])] at H hgood
 have hmS : ∀ {h1 : Heap}, Mod (footB b r kv) h h1 → Mod S h h1 := fun m1 => m1.weak fun c _ hc => (hS c).2 hc
 refine B.burn (fun hz h1 B1 m1 => ⟨_, rfl, ?_⟩) (fun hz h1 B1 m1 hs1 => ⟨_, rfl, ?_⟩)
 ·rw [if_pos hz] at H
  exact PIf.yes rfl (H h1 S ⟨r, kv, B1, hS⟩ (hmS m1) (fun c hc => .inl hc))
 rw [if_neg hz] at H hgood
 refine PIf.no rfl ?_
 refine atI (LoadM.mk (hget_lit B1.head rfl) (lookup_ok P_mpf P_str P_zpf B1.map ?_))
 rcases B1.look name with ⟨k1, k2⟩ | ⟨p, hp, k1, k2, k3⟩
 · -- a new file
  rw [k1]
  refine ⟨none, rfl, Join.mk fun K hK => PIf.yes rfl ?_⟩
  refine New.mk fun h2 _ hb2 x2 hs2 => ?_
  have B2 := B1.mod x2 (fun _ _ h => h)
  refine atI (LoadM.mk (hget_lit B2.head rfl) ?_)
  have hsz : name.size ≤ 32 := by simp [badName] at hn; omega
  have hlen := wtF_len (tickB m).files
  have hkl : kv.length = (tickB m).files.length := by rw [← B1.perm.length_eq]; simp
  rw [(tick_fuel m).2.2] at hkl
  have hl2 := wtF_len m.files
  refine update_ok P_mpf P_str B2.map (by simp [maxLen]; omega) (by simp [kvM, maxLen]; omega) fun h3 M3 m3 hs3 => ?_
  rw [updM_new k1] at M3
  have hb3 := m3.blk hb2 (by have := B1.map.lt; omega)
  have kf := k2
  rw [(tick_fuel m).2.2] at kf
  have hhave : haveF name m.files = insF ⟨name, bs0, bs0⟩ m.files := by unfold haveF; rw [kf]; rfl
  have hn2 := findF_none kf
  have hws := wtF_ins ⟨name, bs0, bs0⟩ m.files
  simp only [sz0] at hws
  have B3 : BoxAt h3 b r (kv ++ [(⟨name, bs0, bs0⟩, h1.size)]) { tickB m with files := insF ⟨name, bs0, bs0⟩ m.files } := by
   refine ⟨m3.blk B2.head B2.ne_br.symm, ?_, ?_, ?_, ?_, ?_⟩
   ·rw [kvM, List.map_append]; exact M3
   ·intro p hp
    rcases List.mem_append.1 hp with hp | hp
    ·exact m3.blk (B2.cells p hp) (B2.ne_pb hp).2
    ·simp at hp; subst hp; exact hb3
   ·rw [List.map_append]
    refine (List.perm_append_singleton _ _).trans (((B1.perm.trans (List.Perm.of_eq (tick_fuel m).2.2)).cons _).trans (insF_perm _ _).symm)
   ·rw [List.map_append]
    refine List.nodup_append.2 ⟨B1.nodup, by simp, ?_⟩
    intro a ha c hc
    obtain ⟨p, hp, rfl⟩ := List.mem_map.1 ha
    simp at hc; subst hc
    have := blk_lt (B1.cells p hp); omega
   ·refine B.good.tick _ (insF_sorted B.good.sorted hn2) (fun f hf => ?_) (by omega)
    rcases List.mem_cons.1 ((insF_perm _ _).subset hf) with rfl | hf
    ·exact hsz
    ·exact B.good.names f hf
  refine hK _ _ ?_
  rw [hhave] at H hgood
  refine B3.putSoft (p := (⟨name, bs0, bs0⟩, h1.size)) (by simp) (data := data) hgood fun h4 kv4 B4 m4 e4 => ?_
  have hf4 : ∀ c, footB b r kv4 c → footB b r kv c ∨ h.size ≤ c := fun c hc => by
   rcases (e4 c).1 hc with h | h | ⟨p, hp, rfl⟩
   ·exact .inl (.inl h)
   ·exact .inl (.inr (.inl h))
   ·rcases List.mem_append.1 hp with hp | hp
    ·exact .inl (.inr (.inr ⟨p, hp, rfl⟩))
    ·simp at hp; subst hp; exact .inr (by have := m1.size; simpa using this)
  refine H h4 (footB b r kv4) ⟨r, kv4, B4, fun _ => Iff.rfl⟩ ?_ (fun c hc => (hf4 c hc).imp (hS c).2 id)
  have m13 : Mod (footB b r kv) h1 h3 := x2.mod.trans (m3.weak fun c _ hc => .inr (.inl hc))
  refine hmS ((m1.trans m13).then (m4.weak fun c _ hc => hf4 c ((e4 c).2 hc)))
 · -- a file that is there
  rw [k1]
  refine ⟨some ⟨p.2, 0, none⟩, rfl, Join.mk fun K hK => PIf.no rfl (hK _ _ ?_)⟩
  have kf := k2
  rw [(tick_fuel m).2.2] at kf
  have hhave : haveF name m.files = m.files := by unfold haveF; rw [kf]; rfl
  rw [hhave] at H hgood
  subst k3
  have e3 := (tick_fuel m).2.2
  refine B1.putSoft hp (data := data) (by rw [e3]; exact hgood) fun h4 kv4 B4 m4 e4 => ?_
  refine H h4 S ⟨r, kv4, by rw [e3] at B4; exact B4, fun c => (hS c).trans (e4 c).symm⟩ (hmS (m1.trans m4)) (fun c hc => .inl hc)
/-! ### Sync -/
theorem bSync_ok {A : Amb} {h : Heap} {b : Nat} {S : Nat → Prop} {m : Bx} {name : ByteArray} {R : Value → Heap → Prop} (B : IsBox h b S m)
  (H : ∀ h', IsBox h' b S (syncB m name).2 → Mod S h h' → R (.int .i64 (syncB m name).1) h') : HCalls A P f_box_Box_Sync #[ptrV b, .string name] h R := by
 have hgood := B.good.sync (name := name)
 obtain ⟨r, kv, B, hS⟩ := B
 refine ok_box_Box_Sync ?_
 unfold F_box_Box_Sync
 refine off_ok B.head ⟨_, rfl, ?_⟩
 unfold syncB at H hgood
 have hmS : ∀ {h1 : Heap}, Mod (footB b r kv) h h1 → Mod S h h1 := fun m1 => m1.weak fun c _ hc => (hS c).2 hc
 refine PIf.intro (fun hd => ?_) (fun hd => ?_)
 ·rw [if_pos hd] at H; exact H h ⟨r, kv, B, hS⟩ Mod.refl
 rw [if_neg (by simp [hd])] at H hgood
 refine atI (LoadM.mk (hget_lit B.head rfl) (lookup_ok P_mpf P_str P_zpf B.map ?_))
 rcases B.look name with ⟨k1, k2⟩ | ⟨p, hp, k1, k2, k3⟩
 ·rw [k1]
  rw [k2] at H
  exact ⟨none, rfl, PIf.yes rfl (H h ⟨r, kv, B, hS⟩ Mod.refl)⟩
 rw [k1]
 rw [k2, if_neg (by simp)] at H hgood
 refine ⟨some ⟨p.2, 0, none⟩, rfl, PIf.no rfl ?_⟩
 refine B.burn (fun hz h1 B1 m1 => ⟨_, rfl, ?_⟩) (fun hz h1 B1 m1 hs1 => ⟨_, rfl, ?_⟩)
 ·rw [if_pos hz] at H
  exact PIf.yes rfl (H h1 ⟨r, kv, B1, hS⟩ (hmS m1))
 rw [if_neg hz] at H hgood
 refine PIf.no rfl ?_
 refine atI (LoadM.mk (hget_lit B1.head rfl) (lookup_ok P_mpf P_str P_zpf B1.map ?_))
 rw [k1]
 refine ⟨some ⟨p.2, 0, none⟩, rfl, ?_⟩
 have hc := B1.cells p hp
 refine atI (LoadS.mk (hget_lit hc rfl) (atI (LoadS.mk (hget_lit1 hc rfl) ⟨?_, ?_⟩)))
 ·have h3 := wtF_mem (findF_some k2).2
  have := B.good.wt
  simp [IntKind.max, IntKind.bits, IntKind.signed]; omega
 refine atI (Store.mk hc (by simp) fun h2 hb2 m2 hs2 => atI (Store.mk1 hb2 (by simp) fun h3 hb3 m3 hs3 => ?_))
 subst k3
 have e3 := (tick_fuel m).2.2
 have B3 := B1.set hp (h' := h3) (g := firmF) (fun _ => rfl) (by simpa [firmF] using hb3) (m2.trans m3) (by rw [e3]; exact hgood)
 rw [e3] at B3
 refine H h3 ⟨r, _, B3, fun c => (hS c).trans (foot_set (g := fun q => if q.1.name = p.1.name then firmF q.1 else q.1) c).symm⟩ (hmS (m1.trans ((m2.trans m3).weak fun c _ hc => .inr (.inr ⟨p, hp, hc.symm⟩))))
/-! ### Read -/
theorem bRead_ok {A : Amb} {h : Heap} {b : Nat} {S : Nat → Prop} {m : Bx} {name : ByteArray} {R : Value → Heap → Prop} (B : IsBox h b S m)
  (H : R (.tuple #[.string (readB m name).1, .int .i64 (readB m name).2]) h) : HCalls A P f_box_Box_Read #[ptrV b, .string name] h R := by
 obtain ⟨r, kv, B, hS⟩ := B
 refine ok_box_Box_Read ?_
 unfold F_box_Box_Read
 refine off_ok B.head ⟨_, rfl, ?_⟩
 unfold readB at H
 refine PIf.intro (fun hd => ?_) (fun hd => ?_)
 ·rw [if_pos hd] at H; exact H
 rw [if_neg (by simp [hd])] at H
 refine atI (LoadM.mk (hget_lit B.head rfl) (lookup_ok P_mpf P_str P_zpf B.map ?_))
 rcases B.look name with ⟨k1, k2⟩ | ⟨p, hp, k1, k2, k3⟩
 ·rw [k1]
  rw [k2] at H
  exact ⟨none, rfl, PIf.yes rfl H⟩
 rw [k1]
 rw [k2] at H
 refine ⟨some ⟨p.2, 0, none⟩, rfl, PIf.no rfl ?_⟩
 have hc := B.cells p hp
 refine atI (LoadS.mk (hget_lit hc rfl) (atI (LoadS.mk (hget_lit1 hc rfl) ⟨?_, H⟩)))
 have h3 := wtF_mem (findF_some k2).2
 have := B.good.wt
 simp [IntKind.max, IntKind.bits, IntKind.signed]; omega
/-! ### Delete -/
theorem delM_kv (k : ByteArray) (kv : List (Fi × Nat)) : delM k (kvM kv) = kvM (kv.filter fun p => !decide (p.1.name = k)) := by
 unfold delM kvM
 rw [List.filter_map]; rfl
theorem bDelete_ok {A : Amb} {h : Heap} {b : Nat} {S : Nat → Prop} {m : Bx} {name : ByteArray} {R : Value → Heap → Prop} (B : IsBox h b S m)
  (H : ∀ h' S', IsBox h' b S' (deleteB m name).2 → Mod S h h' → (∀ c, S' c → S c) → R (.int .i64 (deleteB m name).1) h') : HCalls A P f_box_Box_Delete #[ptrV b, .string name] h R := by
 have hgood := B.good.delete (name := name)
 obtain ⟨r, kv, B, hS⟩ := B
 refine ok_box_Box_Delete ?_
 unfold F_box_Box_Delete
 refine off_ok B.head ⟨_, rfl, ?_⟩
 unfold deleteB at H hgood
 have hmS : ∀ {h1 : Heap}, Mod (footB b r kv) h h1 → Mod S h h1 := fun m1 => m1.weak fun c _ hc => (hS c).2 hc
 refine PIf.intro (fun hd => ?_) (fun hd => ?_)
 ·rw [if_pos hd] at H; exact H h S ⟨r, kv, B, hS⟩ Mod.refl (fun _ h => h)
 rw [if_neg (by simp [hd])] at H hgood
 refine atI (LoadM.mk (hget_lit B.head rfl) (lookup_ok P_mpf P_str P_zpf B.map ?_))
 rcases B.look name with ⟨k1, k2⟩ | ⟨p, hp, k1, k2, k3⟩
 ·rw [k1]
  rw [k2] at H
  exact ⟨none, rfl, PIf.yes rfl (H h S ⟨r, kv, B, hS⟩ Mod.refl (fun _ h => h))⟩
 rw [k1]
 rw [k2, if_neg (by simp)] at H hgood
 refine ⟨some ⟨p.2, 0, none⟩, rfl, PIf.no rfl ?_⟩
 refine B.burn (fun hz h1 B1 m1 => ⟨_, rfl, ?_⟩) (fun hz h1 B1 m1 hs1 => ⟨_, rfl, ?_⟩)
 ·rw [if_pos hz] at H
  exact PIf.yes rfl (H h1 S ⟨r, kv, B1, hS⟩ (hmS m1) (fun _ h => h))
 rw [if_neg hz] at H hgood
 refine PIf.no rfl ?_
 refine atI (LoadM.mk (hget_lit B1.head rfl) (delete_ok P_mpf P_str B1.map fun h2 M2 m2 hs2 => ⟨rfl, ?_⟩))
 rw [delM_kv] at M2
 have e3 := (tick_fuel m).2.2
 have B2 : BoxAt h2 b r (kv.filter fun p => !decide (p.1.name = name)) { tickB m with files := delF name m.files } := by
  refine ⟨m2.blk B1.head B1.ne_br.symm, M2, fun q hq => ?_, ?_, ?_, hgood⟩
  ·have hq := (List.mem_filter.1 hq).1
   exact m2.blk (B1.cells q hq) (B1.ne_pb hq).2
  ·have h1 := B.perm.filter fun f => !decide (f.name = name)
   rw [List.filter_map] at h1
   exact h1
  ·exact (List.filter_sublist.map _).nodup B.nodup
 refine H h2 (footB b r _) ⟨r, _, B2, fun _ => Iff.rfl⟩ (hmS (m1.trans (m2.weak fun c _ hc => .inr (.inl hc)))) (fun c hc => (hS c).2 ?_)
 rcases hc with h | h | ⟨p, hp, rfl⟩
 ·exact .inl h
 ·exact .inr (.inl h)
 ·exact .inr (.inr ⟨p, (List.mem_filter.1 hp).1, rfl⟩)
/-! ### Fuel, New -/
theorem bNew_ok {A : Amb} {h : Heap} {R : Value → Heap → Prop} (H : ∀ b h' S, IsBox h' b S newB → Ext h h' → (∀ c, S c → h.size ≤ c) → R (ptrV b) h') : HCalls A P f_box_New #[] h R := by
 refine ok_box_New ?_
 unfold F_box_New
 refine New.mk fun h1 _ hb1 x1 hs1 => New.mk fun h2 _ hb2 x2 hs2 => ?_
 refine H _ h2 (footB h1.size h.size []) ⟨_, [], ⟨hb2, MapS.empty (x2.blk hb1 (by simp)), by simp, List.Perm.refl _, by simp, goodB_new⟩, fun _ => Iff.rfl⟩ (x1.trans x2) ?_
 rintro c (rfl | rfl | ⟨p, hp, _⟩)
 ·omega
 ·exact Nat.le_refl _
 ·cases hp
end Go.Lf.G

/-
 The contracts of strings.Repeat, strings.CutPrefix, strconv.ParseUint, strconv.Itoa, strconv.Atoi and strings.Builder at this translation (printed by the kit's lay-plain.mjs).
-/
namespace Go.Proofs
open Go.Shelf
def Tryz.lays105_ren : Go.Shelf.Ren := ⟨fun | 105 => 105 | 212 => 132 | 99 => 133 | 165 => 134 | 166 => 121 | 170 => 135 | 169 => 123 | 263 => 168 | 264 => 169 | 206 => 170 | 240 => 143 | 241 => 171 | 276 => 178 | 277 => 191 | n => n, fun | 9 => 9 | 3 => 3 | 4 => 4 | 20 => 20 | 0 => 0 | 46 => 178 | 109 => 200 | 5 => 5 | 72 => 187 | 76 => 154 | 51 => 175 | 146 => 176 | 53 => 140 | 148 => 228 | 70 => 185 | 37 => 31 | 75 => 153 | 127 => 210 | 164 => 237 | 80 => 144 | n => n, fun | n => n⟩
theorem Tryz.lays105 : Go.Proofs.Lays.n105 Tryz.prog Tryz.lays105_ren := {
 mixed := by kernel_rfl
 f99 := Tryz.func133.trans (congrArg some (by kernel_rfl))
 f105 := Tryz.func105.trans (congrArg some (by kernel_rfl))
 f165 := Tryz.func134.trans (congrArg some (by kernel_rfl))
 f166 := Tryz.func121.trans (congrArg some (by kernel_rfl))
 f169 := Tryz.func123.trans (congrArg some (by kernel_rfl))
 f170 := Tryz.func135.trans (congrArg some (by kernel_rfl))
 f206 := Tryz.func170.trans (congrArg some (by kernel_rfl))
 f212 := Tryz.func132.trans (congrArg some (by kernel_rfl))
 f240 := Tryz.func143.trans (congrArg some (by kernel_rfl))
 f241 := Tryz.func171.trans (congrArg some (by kernel_rfl))
 f263 := Tryz.func168.trans (congrArg some (by kernel_rfl))
 f264 := Tryz.func169.trans (congrArg some (by kernel_rfl))
 f276 := Tryz.func178.trans (congrArg some (by kernel_rfl))
 f277 := Tryz.func191.trans (congrArg some (by kernel_rfl))
 t0 := Tryz.underlying0
 a0 := Tryz.isAgg0
 z0 := Tryz.sizeOf0
 v0 := Tryz.zeroValue0
 t3 := Tryz.underlying3
 a3 := Tryz.isAgg3
 z3 := Tryz.sizeOf3
 v3 := Tryz.zeroValue3
 t4 := Tryz.underlying4
 a4 := Tryz.isAgg4
 z4 := Tryz.sizeOf4
 v4 := Tryz.zeroValue4
 t5 := Tryz.underlying5
 a5 := Tryz.isAgg5
 z5 := Tryz.sizeOf5
 v5 := Tryz.zeroValue5
 t9 := Tryz.underlying9
 a9 := Tryz.isAgg9
 z9 := Tryz.sizeOf9
 v9 := Tryz.zeroValue9
 t20 := Tryz.underlying20
 a20 := Tryz.isAgg20
 z20 := Tryz.sizeOf20
 v20 := Tryz.zeroValue20
 t37 := Tryz.underlying31
 a37 := Tryz.isAgg31
 z37 := Tryz.sizeOf31
 v37 := Tryz.zeroValue31
 t46 := Tryz.underlying178
 a46 := Tryz.isAgg178
 z46 := Tryz.sizeOf178
 v46 := Tryz.zeroValue178
 t51 := Tryz.underlying175
 a51 := Tryz.isAgg175
 z51 := Tryz.sizeOf175
 v51 := Tryz.zeroValue175
 t53 := Tryz.underlying140
 a53 := Tryz.isAgg140
 z53 := Tryz.sizeOf140
 v53 := Tryz.zeroValue140
 t70 := Tryz.underlying185
 a70 := Tryz.isAgg185
 z70 := Tryz.sizeOf185
 v70 := Tryz.zeroValue185
 t72 := Tryz.underlying187
 a72 := Tryz.isAgg187
 z72 := Tryz.sizeOf187
 v72 := Tryz.zeroValue187
 t75 := Tryz.underlying153
 a75 := Tryz.isAgg153
 z75 := Tryz.sizeOf153
 v75 := Tryz.zeroValue153
 t76 := Tryz.underlying154
 a76 := Tryz.isAgg154
 z76 := Tryz.sizeOf154
 v76 := Tryz.zeroValue154
 t109 := Tryz.underlying200
 a109 := Tryz.isAgg200
 z109 := Tryz.sizeOf200
 v109 := Tryz.zeroValue200
 t127 := Tryz.underlying210
 a127 := Tryz.isAgg210
 z127 := Tryz.sizeOf210
 v127 := Tryz.zeroValue210
 t146 := Tryz.underlying176
 a146 := Tryz.isAgg176
 z146 := Tryz.sizeOf176
 v146 := Tryz.zeroValue176
 t148 := Tryz.underlying228
 a148 := Tryz.isAgg228
 z148 := Tryz.sizeOf228
 v148 := Tryz.zeroValue228
 t164 := Tryz.underlying237
 a164 := Tryz.isAgg237
 z164 := Tryz.sizeOf237
 v164 := Tryz.zeroValue237 }
theorem Tryz.extra105 : Builder.Extra Tryz.prog Tryz.lays105_ren := {
 sizeBuilder := by kernel_rfl
 liesBuilder := by kernel_rfl
 t5 := Tryz.lays105.t5
 a5 := Tryz.lays105.a5
 z5 := Tryz.lays105.z5
 v5 := Tryz.lays105.v5
 infoByte := by kernel_rfl
 cellsByte := by kernel_rfl
 sizeByte := by kernel_rfl
 neB5 := by decide }
theorem Tryz.lays166 : Lays.n166 Tryz.prog Tryz.lays105_ren := { Tryz.lays105 with }
theorem Tryz.lays169 : Lays.n169 Tryz.prog Tryz.lays105_ren := { Tryz.lays105 with }
def Tryz.lays103_ren : Go.Shelf.Ren := ⟨fun | 103 => 129 | 210 => 157 | 206 => 170 | n => n, fun | 9 => 9 | 4 => 4 | 24 => 67 | 3 => 3 | n => n, fun | n => n⟩
theorem Tryz.lays103 : Go.Proofs.Lays.n103 Tryz.prog Tryz.lays103_ren := {
 mixed := by kernel_rfl
 f103 := Tryz.func129.trans (congrArg some (by kernel_rfl))
 f206 := Tryz.func170.trans (congrArg some (by kernel_rfl))
 f210 := Tryz.func157.trans (congrArg some (by kernel_rfl))
 t3 := Tryz.underlying3
 a3 := Tryz.isAgg3
 z3 := Tryz.sizeOf3
 v3 := Tryz.zeroValue3
 t4 := Tryz.underlying4
 a4 := Tryz.isAgg4
 z4 := Tryz.sizeOf4
 v4 := Tryz.zeroValue4
 t9 := Tryz.underlying9
 a9 := Tryz.isAgg9
 z9 := Tryz.sizeOf9
 v9 := Tryz.zeroValue9
 t24 := Tryz.underlying67
 a24 := Tryz.isAgg67
 z24 := Tryz.sizeOf67
 v24 := Tryz.zeroValue67 }
def Tryz.laysPu14_ren : Go.Shelf.Ren := ⟨fun | 14 => 130 | 16 => 158 | 17 => 112 | 19 => 185 | 20 => 186 | 21 => 138 | 22 => 139 | 23 => 140 | 24 => 141 | 25 => 176 | 27 => 74 | 26 => 177 | 28 => 108 | 29 => 136 | 30 => 172 | 31 => 173 | 32 => 174 | 33 => 175 | 35 => 156 | 34 => 192 | 36 => 193 | 37 => 194 | 38 => 195 | 39 => 198 | 40 => 199 | n => n, fun | 9 => 9 | 3 => 3 | 22 => 140 | 24 => 153 | 25 => 197 | 4 => 4 | 34 => 203 | 5 => 5 | 36 => 178 | 37 => 31 | 0 => 0 | 39 => 206 | 21 => 21 | 44 => 235 | 47 => 210 | 50 => 253 | 48 => 251 | 2 => 2 | 52 => 230 | 55 => 232 | 59 => 249 | 60 => 175 | 20 => 20 | 61 => 250 | 65 => 257 | 66 => 258 | 67 => 144 | n => n, fun | 0 => 0 | 1 => 1 | 2 => 2 | 3 => 4 | 4 => 5 | n => n⟩
theorem Tryz.laysPu14 : Go.Proofs.LaysPu.n14 Tryz.prog Tryz.laysPu14_ren := {
 mixed := by kernel_rfl
 f14 := Tryz.func130.trans (congrArg some (by kernel_rfl))
 f16 := Tryz.func158.trans (congrArg some (by kernel_rfl))
 f17 := Tryz.func112.trans (congrArg some (by kernel_rfl))
 f19 := Tryz.func185.trans (congrArg some (by kernel_rfl))
 f20 := Tryz.func186.trans (congrArg some (by kernel_rfl))
 f21 := Tryz.func138.trans (congrArg some (by kernel_rfl))
 f22 := Tryz.func139.trans (congrArg some (by kernel_rfl))
 f23 := Tryz.func140.trans (congrArg some (by kernel_rfl))
 f24 := Tryz.func141.trans (congrArg some (by kernel_rfl))
 f25 := Tryz.func176.trans (congrArg some (by kernel_rfl))
 f26 := Tryz.func177.trans (congrArg some (by kernel_rfl))
 f27 := Tryz.func74.trans (congrArg some (by kernel_rfl))
 f28 := Tryz.func108.trans (congrArg some (by kernel_rfl))
 f29 := Tryz.func136.trans (congrArg some (by kernel_rfl))
 f30 := Tryz.func172.trans (congrArg some (by kernel_rfl))
 f31 := Tryz.func173.trans (congrArg some (by kernel_rfl))
 f32 := Tryz.func174.trans (congrArg some (by kernel_rfl))
 f33 := Tryz.func175.trans (congrArg some (by kernel_rfl))
 f34 := Tryz.func192.trans (congrArg some (by kernel_rfl))
 f35 := Tryz.func156.trans (congrArg some (by kernel_rfl))
 f36 := Tryz.func193.trans (congrArg some (by kernel_rfl))
 f37 := Tryz.func194.trans (congrArg some (by kernel_rfl))
 f38 := Tryz.func195.trans (congrArg some (by kernel_rfl))
 f39 := Tryz.func198.trans (congrArg some (by kernel_rfl))
 f40 := Tryz.func199.trans (congrArg some (by kernel_rfl))
 t0 := Tryz.underlying0
 a0 := Tryz.isAgg0
 z0 := Tryz.sizeOf0
 v0 := Tryz.zeroValue0
 i0 := by kernel_rfl
 t2 := Tryz.underlying2
 a2 := Tryz.isAgg2
 z2 := Tryz.sizeOf2
 v2 := Tryz.zeroValue2
 i2 := by kernel_rfl
 t3 := Tryz.underlying3
 a3 := Tryz.isAgg3
 z3 := Tryz.sizeOf3
 v3 := Tryz.zeroValue3
 i3 := by kernel_rfl
 t4 := Tryz.underlying4
 a4 := Tryz.isAgg4
 z4 := Tryz.sizeOf4
 v4 := Tryz.zeroValue4
 i4 := by kernel_rfl
 t5 := Tryz.underlying5
 a5 := Tryz.isAgg5
 z5 := Tryz.sizeOf5
 v5 := Tryz.zeroValue5
 i5 := by kernel_rfl
 t9 := Tryz.underlying9
 a9 := Tryz.isAgg9
 z9 := Tryz.sizeOf9
 v9 := Tryz.zeroValue9
 i9 := by kernel_rfl
 t20 := Tryz.underlying20
 a20 := Tryz.isAgg20
 z20 := Tryz.sizeOf20
 v20 := Tryz.zeroValue20
 i20 := by kernel_rfl
 t21 := Tryz.underlying21
 a21 := Tryz.isAgg21
 z21 := Tryz.sizeOf21
 v21 := Tryz.zeroValue21
 i21 := by kernel_rfl
 t22 := Tryz.underlying140
 a22 := Tryz.isAgg140
 z22 := Tryz.sizeOf140
 v22 := Tryz.zeroValue140
 i22 := by kernel_rfl
 t24 := Tryz.underlying153
 a24 := Tryz.isAgg153
 z24 := Tryz.sizeOf153
 v24 := Tryz.zeroValue153
 i24 := by kernel_rfl
 t25 := Tryz.underlying197
 a25 := Tryz.isAgg197
 z25 := Tryz.sizeOf197
 v25 := Tryz.zeroValue197
 i25 := by kernel_rfl
 t34 := Tryz.underlying203
 a34 := Tryz.isAgg203
 z34 := Tryz.sizeOf203
 v34 := Tryz.zeroValue203
 i34 := by kernel_rfl
 c34 := by kernel_rfl
 t36 := Tryz.underlying178
 a36 := Tryz.isAgg178
 z36 := Tryz.sizeOf178
 v36 := Tryz.zeroValue178
 i36 := by kernel_rfl
 t37 := Tryz.underlying31
 a37 := Tryz.isAgg31
 z37 := Tryz.sizeOf31
 v37 := Tryz.zeroValue31
 i37 := by kernel_rfl
 t39 := Tryz.underlying206
 a39 := Tryz.isAgg206
 z39 := Tryz.sizeOf206
 v39 := Tryz.zeroValue206
 i39 := by kernel_rfl
 t44 := Tryz.underlying235
 a44 := Tryz.isAgg235
 z44 := Tryz.sizeOf235
 v44 := Tryz.zeroValue235
 i44 := by kernel_rfl
 t47 := Tryz.underlying210
 a47 := Tryz.isAgg210
 z47 := Tryz.sizeOf210
 v47 := Tryz.zeroValue210
 i47 := by kernel_rfl
 t48 := Tryz.underlying251
 a48 := Tryz.isAgg251
 z48 := Tryz.sizeOf251
 v48 := Tryz.zeroValue251
 i48 := by kernel_rfl
 t50 := Tryz.underlying253
 a50 := Tryz.isAgg253
 z50 := Tryz.sizeOf253
 v50 := Tryz.zeroValue253
 i50 := by kernel_rfl
 t52 := Tryz.underlying230
 a52 := Tryz.isAgg230
 z52 := Tryz.sizeOf230
 v52 := Tryz.zeroValue230
 i52 := by kernel_rfl
 t55 := Tryz.underlying232
 a55 := Tryz.isAgg232
 z55 := Tryz.sizeOf232
 v55 := Tryz.zeroValue232
 i55 := by kernel_rfl
 t59 := Tryz.underlying249
 a59 := Tryz.isAgg249
 z59 := Tryz.sizeOf249
 v59 := Tryz.zeroValue249
 i59 := by kernel_rfl
 t60 := Tryz.underlying175
 a60 := Tryz.isAgg175
 z60 := Tryz.sizeOf175
 v60 := Tryz.zeroValue175
 i60 := by kernel_rfl
 t61 := Tryz.underlying250
 a61 := Tryz.isAgg250
 z61 := Tryz.sizeOf250
 t65 := Tryz.underlying257
 a65 := Tryz.isAgg257
 z65 := Tryz.sizeOf257
 v65 := Tryz.zeroValue257
 i65 := by kernel_rfl
 t66 := Tryz.underlying258
 a66 := Tryz.isAgg258
 z66 := Tryz.sizeOf258
 v66 := Tryz.zeroValue258
 i66 := by kernel_rfl
 t67 := Tryz.underlying144
 a67 := Tryz.isAgg144
 z67 := Tryz.sizeOf144
 v67 := Tryz.zeroValue144
 i67 := by kernel_rfl
 g0 := by kernel_rfl
 m0 := by kernel_rfl
 g1 := by kernel_rfl
 m1 := by kernel_rfl
 g2 := by kernel_rfl
 m2 := by kernel_rfl
 g3 := by kernel_rfl
 m3 := by kernel_rfl
 g4 := by kernel_rfl
 m4 := by kernel_rfl }
def Tryz.laysM171_ren : Go.Shelf.Ren := ⟨fun | 171 => 74 | 243 => 108 | 246 => 136 | 283 => 172 | 284 => 173 | 285 => 174 | 286 => 175 | 129 => 156 | 317 => 192 | 318 => 193 | 319 => 194 | 320 => 195 | 337 => 198 | 338 => 199 | n => n, fun | 3 => 3 | 9 => 9 | 2 => 2 | 4 => 4 | 171 => 230 | 0 => 0 | 53 => 140 | 37 => 31 | 5 => 5 | 173 => 232 | 212 => 249 | 51 => 175 | 20 => 20 | 213 => 250 | 46 => 178 | 232 => 257 | 233 => 258 | n => n, fun | 17 => 2 | 18 => 4 | 19 => 5 | n => n⟩
theorem Tryz.laysM171 : Go.Proofs.LaysM.n171 Tryz.prog Tryz.laysM171_ren := {
 mixed := by kernel_rfl
 f129 := Tryz.func156.trans (congrArg some (by kernel_rfl))
 f171 := Tryz.func74.trans (congrArg some (by kernel_rfl))
 f243 := Tryz.func108.trans (congrArg some (by kernel_rfl))
 f246 := Tryz.func136.trans (congrArg some (by kernel_rfl))
 f283 := Tryz.func172.trans (congrArg some (by kernel_rfl))
 f284 := Tryz.func173.trans (congrArg some (by kernel_rfl))
 f285 := Tryz.func174.trans (congrArg some (by kernel_rfl))
 f286 := Tryz.func175.trans (congrArg some (by kernel_rfl))
 f317 := Tryz.func192.trans (congrArg some (by kernel_rfl))
 f318 := Tryz.func193.trans (congrArg some (by kernel_rfl))
 f319 := Tryz.func194.trans (congrArg some (by kernel_rfl))
 f320 := Tryz.func195.trans (congrArg some (by kernel_rfl))
 f337 := Tryz.func198.trans (congrArg some (by kernel_rfl))
 f338 := Tryz.func199.trans (congrArg some (by kernel_rfl))
 t0 := Tryz.underlying0
 a0 := Tryz.isAgg0
 z0 := Tryz.sizeOf0
 v0 := Tryz.zeroValue0
 t2 := Tryz.underlying2
 a2 := Tryz.isAgg2
 z2 := Tryz.sizeOf2
 v2 := Tryz.zeroValue2
 t3 := Tryz.underlying3
 a3 := Tryz.isAgg3
 z3 := Tryz.sizeOf3
 v3 := Tryz.zeroValue3
 t4 := Tryz.underlying4
 a4 := Tryz.isAgg4
 z4 := Tryz.sizeOf4
 v4 := Tryz.zeroValue4
 t5 := Tryz.underlying5
 a5 := Tryz.isAgg5
 z5 := Tryz.sizeOf5
 v5 := Tryz.zeroValue5
 t9 := Tryz.underlying9
 a9 := Tryz.isAgg9
 z9 := Tryz.sizeOf9
 v9 := Tryz.zeroValue9
 t20 := Tryz.underlying20
 a20 := Tryz.isAgg20
 z20 := Tryz.sizeOf20
 v20 := Tryz.zeroValue20
 t37 := Tryz.underlying31
 a37 := Tryz.isAgg31
 z37 := Tryz.sizeOf31
 v37 := Tryz.zeroValue31
 t46 := Tryz.underlying178
 a46 := Tryz.isAgg178
 z46 := Tryz.sizeOf178
 v46 := Tryz.zeroValue178
 t51 := Tryz.underlying175
 a51 := Tryz.isAgg175
 z51 := Tryz.sizeOf175
 v51 := Tryz.zeroValue175
 t53 := Tryz.underlying140
 a53 := Tryz.isAgg140
 z53 := Tryz.sizeOf140
 v53 := Tryz.zeroValue140
 t171 := Tryz.underlying230
 a171 := Tryz.isAgg230
 z171 := Tryz.sizeOf230
 v171 := Tryz.zeroValue230
 t173 := Tryz.underlying232
 a173 := Tryz.isAgg232
 z173 := Tryz.sizeOf232
 v173 := Tryz.zeroValue232
 t212 := Tryz.underlying249
 a212 := Tryz.isAgg249
 z212 := Tryz.sizeOf249
 v212 := Tryz.zeroValue249
 t213 := Tryz.underlying250
 a213 := Tryz.isAgg250
 z213 := Tryz.sizeOf250
 t232 := Tryz.underlying257
 a232 := Tryz.isAgg257
 z232 := Tryz.sizeOf257
 v232 := Tryz.zeroValue257
 t233 := Tryz.underlying258
 a233 := Tryz.isAgg258
 z233 := Tryz.sizeOf258
 v233 := Tryz.zeroValue258
 g17 := by kernel_rfl
 g18 := by kernel_rfl
 g19 := by kernel_rfl
 i0 := by kernel_rfl
 i2 := by kernel_rfl
 i3 := by kernel_rfl
 i4 := by kernel_rfl
 i5 := by kernel_rfl
 i9 := by kernel_rfl
 i20 := by kernel_rfl
 i37 := by kernel_rfl
 i46 := by kernel_rfl
 i51 := by kernel_rfl
 i53 := by kernel_rfl
 i171 := by kernel_rfl
 i173 := by kernel_rfl
 i212 := by kernel_rfl
 i232 := by kernel_rfl
 i233 := by kernel_rfl
 m17 := by kernel_rfl
 m18 := by kernel_rfl
 m19 := by kernel_rfl }
def Tryz.laysC172_ren : Go.Shelf.Ren := ⟨fun | 172 => 82 | 244 => 111 | 245 => 112 | 247 => 137 | 279 => 138 | 280 => 139 | 281 => 140 | 282 => 141 | 287 => 158 | 316 => 176 | 171 => 74 | 205 => 177 | 321 => 185 | 322 => 186 | 243 => 108 | 246 => 136 | 283 => 172 | 284 => 173 | 285 => 174 | 286 => 175 | 129 => 156 | 317 => 192 | 318 => 193 | 319 => 194 | 320 => 195 | 337 => 198 | 338 => 199 | n => n, fun | 9 => 9 | 3 => 3 | 75 => 153 | 76 => 154 | 4 => 4 | 5 => 5 | 167 => 203 | 37 => 31 | 0 => 0 | 85 => 204 | 2 => 2 | 168 => 206 | 53 => 140 | 175 => 197 | 46 => 178 | 210 => 235 | 127 => 210 | 145 => 253 | 143 => 251 | 21 => 21 | 171 => 230 | 173 => 232 | 212 => 249 | 51 => 175 | 20 => 20 | 213 => 250 | 232 => 257 | 233 => 258 | 80 => 144 | n => n, fun | 15 => 0 | 16 => 1 | 17 => 2 | 18 => 4 | 19 => 5 | n => n⟩
theorem Tryz.laysC172 : Go.Proofs.LaysC.n172 Tryz.prog Tryz.laysC172_ren := {
 mixed := by kernel_rfl
 f129 := Tryz.func156.trans (congrArg some (by kernel_rfl))
 f171 := Tryz.func74.trans (congrArg some (by kernel_rfl))
 f172 := Tryz.func82.trans (congrArg some (by kernel_rfl))
 f205 := Tryz.func177.trans (congrArg some (by kernel_rfl))
 f243 := Tryz.func108.trans (congrArg some (by kernel_rfl))
 f244 := Tryz.func111.trans (congrArg some (by kernel_rfl))
 f245 := Tryz.func112.trans (congrArg some (by kernel_rfl))
 f246 := Tryz.func136.trans (congrArg some (by kernel_rfl))
 f247 := Tryz.func137.trans (congrArg some (by kernel_rfl))
 f279 := Tryz.func138.trans (congrArg some (by kernel_rfl))
 f280 := Tryz.func139.trans (congrArg some (by kernel_rfl))
 f281 := Tryz.func140.trans (congrArg some (by kernel_rfl))
 f282 := Tryz.func141.trans (congrArg some (by kernel_rfl))
 f283 := Tryz.func172.trans (congrArg some (by kernel_rfl))
 f284 := Tryz.func173.trans (congrArg some (by kernel_rfl))
 f285 := Tryz.func174.trans (congrArg some (by kernel_rfl))
 f286 := Tryz.func175.trans (congrArg some (by kernel_rfl))
 f287 := Tryz.func158.trans (congrArg some (by kernel_rfl))
 f316 := Tryz.func176.trans (congrArg some (by kernel_rfl))
 f317 := Tryz.func192.trans (congrArg some (by kernel_rfl))
 f318 := Tryz.func193.trans (congrArg some (by kernel_rfl))
 f319 := Tryz.func194.trans (congrArg some (by kernel_rfl))
 f320 := Tryz.func195.trans (congrArg some (by kernel_rfl))
 f321 := Tryz.func185.trans (congrArg some (by kernel_rfl))
 f322 := Tryz.func186.trans (congrArg some (by kernel_rfl))
 f337 := Tryz.func198.trans (congrArg some (by kernel_rfl))
 f338 := Tryz.func199.trans (congrArg some (by kernel_rfl))
 t0 := Tryz.underlying0
 a0 := Tryz.isAgg0
 z0 := Tryz.sizeOf0
 v0 := Tryz.zeroValue0
 t2 := Tryz.underlying2
 a2 := Tryz.isAgg2
 z2 := Tryz.sizeOf2
 v2 := Tryz.zeroValue2
 t3 := Tryz.underlying3
 a3 := Tryz.isAgg3
 z3 := Tryz.sizeOf3
 v3 := Tryz.zeroValue3
 t4 := Tryz.underlying4
 a4 := Tryz.isAgg4
 z4 := Tryz.sizeOf4
 v4 := Tryz.zeroValue4
 t5 := Tryz.underlying5
 a5 := Tryz.isAgg5
 z5 := Tryz.sizeOf5
 v5 := Tryz.zeroValue5
 t9 := Tryz.underlying9
 a9 := Tryz.isAgg9
 z9 := Tryz.sizeOf9
 v9 := Tryz.zeroValue9
 t20 := Tryz.underlying20
 a20 := Tryz.isAgg20
 z20 := Tryz.sizeOf20
 v20 := Tryz.zeroValue20
 t21 := Tryz.underlying21
 a21 := Tryz.isAgg21
 z21 := Tryz.sizeOf21
 v21 := Tryz.zeroValue21
 t37 := Tryz.underlying31
 a37 := Tryz.isAgg31
 z37 := Tryz.sizeOf31
 v37 := Tryz.zeroValue31
 t46 := Tryz.underlying178
 a46 := Tryz.isAgg178
 z46 := Tryz.sizeOf178
 v46 := Tryz.zeroValue178
 t51 := Tryz.underlying175
 a51 := Tryz.isAgg175
 z51 := Tryz.sizeOf175
 v51 := Tryz.zeroValue175
 t53 := Tryz.underlying140
 a53 := Tryz.isAgg140
 z53 := Tryz.sizeOf140
 v53 := Tryz.zeroValue140
 t75 := Tryz.underlying153
 a75 := Tryz.isAgg153
 z75 := Tryz.sizeOf153
 v75 := Tryz.zeroValue153
 t76 := Tryz.underlying154
 a76 := Tryz.isAgg154
 z76 := Tryz.sizeOf154
 v76 := Tryz.zeroValue154
 t85 := Tryz.underlying204
 a85 := Tryz.isAgg204
 z85 := Tryz.sizeOf204
 v85 := Tryz.zeroValue204
 t127 := Tryz.underlying210
 a127 := Tryz.isAgg210
 z127 := Tryz.sizeOf210
 v127 := Tryz.zeroValue210
 t143 := Tryz.underlying251
 a143 := Tryz.isAgg251
 z143 := Tryz.sizeOf251
 v143 := Tryz.zeroValue251
 t145 := Tryz.underlying253
 a145 := Tryz.isAgg253
 z145 := Tryz.sizeOf253
 v145 := Tryz.zeroValue253
 t167 := Tryz.underlying203
 a167 := Tryz.isAgg203
 z167 := Tryz.sizeOf203
 v167 := Tryz.zeroValue203
 t168 := Tryz.underlying206
 a168 := Tryz.isAgg206
 z168 := Tryz.sizeOf206
 v168 := Tryz.zeroValue206
 t171 := Tryz.underlying230
 a171 := Tryz.isAgg230
 z171 := Tryz.sizeOf230
 v171 := Tryz.zeroValue230
 t173 := Tryz.underlying232
 a173 := Tryz.isAgg232
 z173 := Tryz.sizeOf232
 v173 := Tryz.zeroValue232
 t175 := Tryz.underlying197
 a175 := Tryz.isAgg197
 z175 := Tryz.sizeOf197
 v175 := Tryz.zeroValue197
 t210 := Tryz.underlying235
 a210 := Tryz.isAgg235
 z210 := Tryz.sizeOf235
 v210 := Tryz.zeroValue235
 t212 := Tryz.underlying249
 a212 := Tryz.isAgg249
 z212 := Tryz.sizeOf249
 v212 := Tryz.zeroValue249
 t213 := Tryz.underlying250
 a213 := Tryz.isAgg250
 z213 := Tryz.sizeOf250
 t232 := Tryz.underlying257
 a232 := Tryz.isAgg257
 z232 := Tryz.sizeOf257
 v232 := Tryz.zeroValue257
 t233 := Tryz.underlying258
 a233 := Tryz.isAgg258
 z233 := Tryz.sizeOf258
 v233 := Tryz.zeroValue258
 g15 := by kernel_rfl
 g16 := by kernel_rfl
 g17 := by kernel_rfl
 g18 := by kernel_rfl
 g19 := by kernel_rfl
 t80 := Tryz.underlying144
 a80 := Tryz.isAgg144
 z80 := Tryz.sizeOf144
 v80 := Tryz.zeroValue144
 i0 := by kernel_rfl
 i2 := by kernel_rfl
 i3 := by kernel_rfl
 i4 := by kernel_rfl
 i5 := by kernel_rfl
 i9 := by kernel_rfl
 i20 := by kernel_rfl
 i21 := by kernel_rfl
 i37 := by kernel_rfl
 i46 := by kernel_rfl
 i51 := by kernel_rfl
 i53 := by kernel_rfl
 i75 := by kernel_rfl
 i76 := by kernel_rfl
 i80 := by kernel_rfl
 i85 := by kernel_rfl
 i127 := by kernel_rfl
 i143 := by kernel_rfl
 i145 := by kernel_rfl
 i167 := by kernel_rfl
 i168 := by kernel_rfl
 i171 := by kernel_rfl
 i173 := by kernel_rfl
 i175 := by kernel_rfl
 i210 := by kernel_rfl
 i212 := by kernel_rfl
 i232 := by kernel_rfl
 i233 := by kernel_rfl
 m15 := by kernel_rfl
 m16 := by kernel_rfl
 m17 := by kernel_rfl
 m18 := by kernel_rfl
 m19 := by kernel_rfl
 c0 := by kernel_rfl
 c2 := by kernel_rfl
 c3 := by kernel_rfl
 c4 := by kernel_rfl
 c5 := by kernel_rfl
 c9 := by kernel_rfl
 c20 := by kernel_rfl
 c21 := by kernel_rfl
 c37 := by kernel_rfl
 c46 := by kernel_rfl
 c51 := by kernel_rfl
 c53 := by kernel_rfl
 c75 := by kernel_rfl
 c76 := by kernel_rfl
 c80 := by kernel_rfl
 c85 := by kernel_rfl
 c127 := by kernel_rfl
 c143 := by kernel_rfl
 c145 := by kernel_rfl
 c167 := by kernel_rfl
 c168 := by kernel_rfl
 c171 := by kernel_rfl
 c173 := by kernel_rfl
 c175 := by kernel_rfl
 c210 := by kernel_rfl
 c212 := by kernel_rfl
 c213 := by kernel_rfl
 c232 := by kernel_rfl
 c233 := by kernel_rfl }
end Go.Proofs

/-
 Plain law, no program in sight: programs of steps and events as bytes (chapters 12 and 13).
-/
set_option maxRecDepth 100000
set_option linter.unusedVariables false
set_option linter.unusedSimpArgs false
namespace Go.Lf
open Go
abbrev bl (s : ByteArray) : List UInt8 := s.data.toList
theorem bl_size (s : ByteArray) : (bl s).length = s.size := size_list s
theorem bl_strL (l : List UInt8) : bl (strL l) = l := strL_list l
/-- a step -/
structure Stp where
 kind : Int
 name : ByteArray
 undo : ByteArray
 tries : Int
 undoTries : Int
 wait : Int
def Stp.cells (x : Stp) : Array Value := #[.int .i64 x.kind, .string x.name, .string x.undo, .int .i64 x.tries, .int .i64 x.undoTries, .int .i64 x.wait]
structure Prg where
 steps : List Stp
 limit : Int
end Go.Lf

/-
 Names of numbered files, and bytes read frame by frame.
-/
set_option maxRecDepth 100000
set_option linter.unusedVariables false
set_option linter.unusedSimpArgs false
namespace Go.Lf
open Go
/-! ### numerals of eight digits -/
def pad8 (n : Nat) : List UInt8 := Lib.repeatL [48] (8 - (Lib.decDigits n).length) ++ Lib.decDigits n
def valD (a : Nat) (l : List UInt8) : Nat := l.foldl (fun a c => a * 10 + (c.toNat - 48)) a
def Dig (l : List UInt8) : Prop := ∀ c ∈ l, 48 ≤ c.toNat ∧ c.toNat ≤ 57
theorem dig_nat {d : Nat} (h : d < 10) : (UInt8.ofNat (48 + d)).toNat = 48 + d := by
 simp only [UInt8.toNat_ofNat']
 omega
theorem dec_dig : ∀ n : Nat, Dig (Lib.decDigits n) ∧ valD 0 (Lib.decDigits n) = n := by
 intro n
 induction n using Nat.strongRecOn with
 | ind n ih =>
  by_cases h : n < 10
  ·rw [Lib.decDigits, dif_pos h]
   refine ⟨fun c hc => ?_, ?_⟩
   ·rw [List.mem_singleton.1 hc, dig_nat h]; omega
   ·simp only [valD, List.foldl_cons, List.foldl_nil, dig_nat h]; omega
  ·rw [Lib.decDigits, dif_neg h]
   obtain ⟨h1, h2⟩ := ih (n / 10) (by omega)
   have h3 : n % 10 < 10 := Nat.mod_lt _ (by decide)
   refine ⟨fun c hc => ?_, ?_⟩
   ·rcases List.mem_append.1 hc with hc | hc
    ·exact h1 c hc
    ·rw [List.mem_singleton.1 hc, dig_nat h3]; omega
   ·unfold valD at h2 ⊢
    rw [List.foldl_append, h2]
    simp only [List.foldl_cons, List.foldl_nil, dig_nat h3]; omega
theorem zeros_dig : ∀ k : Nat, Dig (Lib.repeatL [48] k) ∧ ∀ l, valD 0 (Lib.repeatL [48] k ++ l) = valD 0 l
 | 0 => ⟨fun c hc => (by cases hc), fun l => rfl⟩
 | k + 1 => by
  obtain ⟨h1, h2⟩ := zeros_dig k
  refine ⟨fun c hc => ?_, fun l => ?_⟩
  ·rcases List.mem_append.1 hc with hc | hc
   ·rw [List.mem_singleton.1 hc]; decide
   ·exact h1 c hc
  ·show valD 0 (([48] ++ Lib.repeatL [48] k) ++ l) = _
   rw [List.append_assoc]
   exact h2 l
theorem pad8_dig (n : Nat) : Dig (pad8 n) ∧ valD 0 (pad8 n) = n := by
 refine ⟨fun c hc => ?_, ?_⟩
 ·rcases List.mem_append.1 hc with hc | hc
  ·exact (zeros_dig _).1 c hc
  ·exact (dec_dig n).1 c hc
 ·exact ((zeros_dig _).2 _).trans (dec_dig n).2
theorem valD_ge : ∀ (l : List UInt8) (a : Nat), a ≤ valD a l
 | [], a => Nat.le_refl _
 | c :: l, a => by
  have := valD_ge l (a * 10 + (c.toNat - 48))
  have h : valD a (c :: l) = valD (a * 10 + (c.toNat - 48)) l := rfl
  rw [h]; omega
theorem parse_val : ∀ (l : List UInt8) (a : Nat), Dig l → valD a l ≤ 4294967295 → Lib.parseUintM 4294967295 a l = .ok (valD a l)
 | [], a, _, _ => rfl
 | c :: l, a, hd, hv => by
  have h : valD a (c :: l) = valD (a * 10 + (c.toNat - 48)) l := rfl
  rw [h] at hv ⊢
  have hc := hd c (by simp)
  have hg := valD_ge l (a * 10 + (c.toNat - 48))
  unfold Lib.parseUintM
  rw [if_pos hc, if_neg (by omega), if_neg (by omega)]
  exact parse_val l _ (fun x hx => hd x (List.mem_cons_of_mem _ hx)) hv
theorem parse_le : ∀ (l : List UInt8) (a : Nat) {u : Nat}, a ≤ 4294967295 → Lib.parseUintM 4294967295 a l = .ok u → u ≤ 4294967295
 | [], a, u, h, hp => by
  unfold Lib.parseUintM at hp
  injection hp with hp
  omega
 | c :: l, a, u, h, hp => by
  unfold Lib.parseUintM at hp
  split at hp
  ·split at hp
   ·cases hp
   ·split at hp
    ·cases hp
    ·exact parse_le l _ (by omega) hp
  ·cases hp
theorem pad8_parse {n : Nat} (h : n ≤ 4294967295) : Lib.parseUintB 32 (pad8 n) = .ok n := by
 obtain ⟨h1, h2⟩ := pad8_dig n
 have hne : pad8 n ≠ [] := by
  intro he
  have hz : Lib.decDigits n = [] := (List.append_eq_nil_iff.1 he).2
  have hl := congrArg List.length hz
  rw [Lib.decDigits_length] at hl
  have := Lib.nDigits_pos n
  simp at hl; omega
 unfold Lib.parseUintB
 rw [if_neg hne]
 have := parse_val (pad8 n) 0 h1 (by rw [h2]; exact h)
 rw [h2] at this
 exact this
theorem pad8_inj {n k : Nat} (h : pad8 n = pad8 k) : n = k := by
 have h1 := (pad8_dig n).2
 rw [h, (pad8_dig k).2] at h1
 exact h1.symm
theorem nDigits_le {k : Nat} : ∀ {n : Nat}, n < 10 ^ (k + 1) → Lib.nDigits n ≤ k + 1 := by
 induction k with
 | zero => intro n h; rw [Lib.nDigits_small (by simpa using h)]; omega
 | succ k ih =>
  intro n h
  by_cases hn : n < 10
  ·rw [Lib.nDigits_small hn]; omega
  ·rw [Lib.nDigits_big hn]
   have := ih (n := n / 10) (by rw [Nat.pow_succ] at h; omega)
   omega
theorem pad8_len {n : Nat} (h : n ≤ 99999999) : (pad8 n).length = 8 := by
 have h1 := nDigits_le (k := 7) (n := n) (by have : (10 : Nat) ^ (7 + 1) = 100000000 := (by decide); omega)
 simp only [pad8, List.length_append, Lib.repeatL_length, Lib.decDigits_length, List.length_singleton]
 omega
theorem pad8_small {n : Nat} (h : (pad8 n).length = 8) : n ≤ 99999999 := by
 have h1 : Lib.nDigits n ≤ 8 := by
  simp only [pad8, List.length_append, Lib.repeatL_length, Lib.decDigits_length, List.length_singleton] at h
  omega
 have h2 := Lib.lt_pow_nDigits n
 have h3 : (10 : Nat) ^ Lib.nDigits n ≤ 10 ^ 8 := Nat.pow_le_pow_right (by decide) h1
 have : (10 : Nat) ^ 8 = 100000000 := by decide
 omega
/-- a numbered file's name -/
def fnB (nm : ByteArray) (n : Nat) : ByteArray := nm ++ strL (pad8 n)
theorem fnB_bl (nm : ByteArray) (n : Nat) : bl (fnB nm n) = bl nm ++ pad8 n := by
 show (nm ++ strL (pad8 n)).data.toList = nm.data.toList ++ pad8 n
 rw [ByteArray.data_append, Array.toList_append]; exact congrArg _ (strL_list _)
theorem fnB_inj {nm : ByteArray} {n k : Nat} (h : fnB nm n = fnB nm k) : n = k := by
 have h1 := congrArg bl h
 rw [fnB_bl, fnB_bl] at h1
 exact pad8_inj (List.append_cancel_left h1)
theorem fnB_size {nm : ByteArray} {n : Nat} (h : n ≤ 99999999) : (fnB nm n).size = nm.size + 8 := by
 rw [fnB, ByteArray.size_append, strL_size, pad8_len h]
/-! ### frame by frame -/
inductive Scan : List UInt8 → List (List UInt8) → Prop
 | stop {l : List UInt8} (h : (nextL l).1 ≠ 0) : Scan l []
 | step {l : List UInt8} {rs : List (List UInt8)} (h : (nextL l).1 = 0) (s : Scan (nextL l).2.2 rs) : Scan l ((nextL l).2.1 :: rs)
theorem next_rest {l : List UInt8} (h : (nextL l).1 = 0) : (nextL l).2.1.length + (nextL l).2.2.length < l.length := by
 unfold nextL at h ⊢
 cases hg : getV 0 0 l with
 | none => rw [hg] at h; dsimp only at h; split at h <;> cases h
 | some p =>
  obtain ⟨n, t⟩ := p
  rw [hg] at h
  obtain ⟨e, _⟩ := getV0 hg
  have ht : t.length ≤ l.length := by rw [e]; simp
  dsimp only at h ⊢
  split at h
  ·cases h
  ·rename_i h1
   split at h
   ·cases h
   ·rename_i h2
    split at h
    ·rename_i h3
     rw [if_neg h1, if_neg h2, if_pos h3]
     simp only [List.length_take, List.length_drop]
     omega
    ·cases h
theorem scan_ex : ∀ (k : Nat) (l : List UInt8), l.length ≤ k → ∃ rs, Scan l rs ∧ (rs.map (·.length + 1)).sum ≤ l.length
 | 0, l, h => by
  have : l = [] := List.eq_nil_of_length_eq_zero (by omega)
  subst this
  exact ⟨[], .stop (by decide), by simp⟩
 | k + 1, l, h => by
  by_cases hn : (nextL l).1 = 0
  ·have h1 := next_rest hn
   obtain ⟨rs, h2, h3⟩ := scan_ex k (nextL l).2.2 (by omega)
   exact ⟨_, .step hn h2, by simp only [List.map_cons, List.sum_cons]; omega⟩
  ·exact ⟨[], .stop hn, by simp⟩
theorem Scan.uniq {l : List UInt8} {rs ts : List (List UInt8)} (h : Scan l rs) : Scan l ts → rs = ts := by
 induction h generalizing ts with
 | stop h =>
  intro h2
  cases h2 with
  | stop => rfl
  | step h3 => exact absurd h3 h
 | step h s ih =>
  intro h2
  cases h2 with
  | stop h3 => exact absurd h h3
  | step h3 s3 => rw [ih s3]
noncomputable def scanL (l : List UInt8) : List (List UInt8) := (scan_ex l.length l (Nat.le_refl _)).choose
theorem scanL_is (l : List UInt8) : Scan l (scanL l) := (scan_ex l.length l (Nat.le_refl _)).choose_spec.1
theorem scanL_of {l : List UInt8} {rs : List (List UInt8)} (h : Scan l rs) : scanL l = rs := (scanL_is l).uniq h
abbrev wraps (rs : List (List UInt8)) : List UInt8 := rs.flatMap wrapL
theorem scan_wraps {rs : List (List UInt8)} (hs : ∀ r ∈ rs, r.length ≤ 1048576) {t : List UInt8} (ht : (nextL t).1 ≠ 0) : Scan (wraps rs ++ t) rs := by
 induction rs with
 | nil => exact .stop ht
 | cons r rs ih =>
  have h1 := next_wrap (l := r) (hs r (by simp)) (wraps rs ++ t)
  have e : wraps (r :: rs) ++ t = wrapL r ++ (wraps rs ++ t) := by simp
  rw [e]
  have := Scan.step (l := wrapL r ++ (wraps rs ++ t)) (rs := rs) (by rw [h1]) (by rw [h1]; exact ih fun x hx => hs x (List.mem_cons_of_mem _ hx))
  rw [h1] at this
  exact this
theorem next_nil : (nextL []).1 ≠ 0 := by decide
theorem next_torn {r : List UInt8} (hr : r.length ≤ 1048576) {n : Nat} (hn : n < (wrapL r).length) : (nextL ((wrapL r).take n)).1 ≠ 0 := by
 have hq : (wrapL r).take n ++ (wrapL r).drop n = wrapL r := List.take_append_drop _ _
 have hql : ((wrapL r).drop n).length ≠ 0 := by rw [List.length_drop]; omega
 generalize (wrapL r).take n = p at *
 generalize (wrapL r).drop n = q at *
 unfold nextL
 cases hg : getV 0 0 p with
 | none => dsimp only; split <;> simp
 | some z =>
  obtain ⟨k, t⟩ := z
  obtain ⟨e, hk⟩ := getV0 hg
  have h1 : getV 0 0 (wrapL r) = some (k, t ++ q) := by rw [← hq, e, List.append_assoc]; exact getV0_put hk _
  have h2 : getV 0 0 (wrapL r) = some (r.length, markL (crcL r) ++ r) := by unfold wrapL; rw [List.append_assoc]; exact getV0_put (by omega) _
  rw [h1] at h2
  obtain ⟨rfl, h3⟩ := Prod.mk.inj (Option.some.inj h2)
  have h4 := congrArg List.length h3
  simp only [List.length_append, markL_len] at h4
  dsimp only
  rw [if_neg (by omega), if_pos (by omega)]
  simp
theorem wrapL_len {r : List UInt8} (h : r.length ≤ 1048576) : r.length + 5 ≤ (wrapL r).length ∧ (wrapL r).length ≤ r.length + 14 := by
 have h1 := putV_len10 (n := r.length) (by omega)
 have h2 : 1 ≤ (putV r.length).length := by
  rw [putV]; split <;> simp
 simp only [wrapL, List.length_append, markL_len]
 omega
end Go.Lf

