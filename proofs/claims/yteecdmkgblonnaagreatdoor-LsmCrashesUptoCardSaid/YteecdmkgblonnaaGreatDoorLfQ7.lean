/-
 The law LsmCrashes (chapter 9): a store between calls, live or down.
-/
import Derived.Test.YteecdmkgblonnaaGreatDoorLfO2ToO3
set_option linter.unusedVariables false
set_option linter.unusedSimpArgs false
set_option maxRecDepth 100000
set_option linter.unusedVariables false
set_option linter.unusedSimpArgs false
namespace Go.Lf.G
open Go
open M (Sorted findK putL putsL refAllL findLs GoodL wrongP OkL liveL atK thereK)
theorem bFuel_ok {A : Amb} {h : Heap} {b : Nat} {S : Nat → Prop} {m : Bx} {n : Int} {R : Value → Heap → Prop} (B : IsBox h b S m) (hn : n ≤ 9223372036854775807)
  (H : ∀ h', IsBox h' b S (fuelB m n) → Mod S h h' → R (.tuple #[]) h') : HCalls A P f_box_Box_Fuel #[ptrV b, .int .i64 n] h R := by
 obtain ⟨r, kv, B, hS⟩ := B
 refine ok_box_Box_Fuel ?_
 unfold F_box_Box_Fuel
 refine PIf.yes rfl (atI (Store.mk1 B.head (by simp) fun h1 hb1 m1 hs1 => ?_))
 exact H h1 ⟨r, kv, B.hd (m' := fuelB m n) (by simpa [fuelB] using hb1) m1 rfl (B.good.fuel hn), hS⟩ (m1.weak fun c _ hc => (hS c).2 (.inl hc))
/-- what a law may find behind a crash: one of the maps -/
structure Aft (B : Bud) (g h : Heap) (b : Nat) (k : Nat → Nat) (m : Bx) (age c : Nat) (ml : List (List Pr)) : Prop where
 box : ∃ S, IsBox h b S m ∧ ∀ c, S c → k c ≠ 0
 tells : ∀ G, CrashTo (ff m) G → ∃ mp ∈ ml, Rec G age c mp
 wt : wtF m.files ≤ B.W0 + age * B.K
 hc : c ≤ B.C
 own : ∀ c, k c ≠ 0 → g.size ≤ c ∧ c < h.size
 ext : Ext g h
/-- a store between calls, live or down -/
def Mode (B : Bud) (g h : Heap) (b d : Nat) (k : Nat → Nat) (m : Bx) (age c : Nat) (mp : List Pr) : Prop :=
 (∃ q st D, q.b = b ∧ q.d = d ∧ StoreAt B g h q k st m D age c ∧ mapS st = mp) ∨ (IsDown h d ∧ k d ≠ 0 ∧ Aft B g h b k m age c [mp])
section
variable {A : Amb} {B : Bud} {g h : Heap} {q : Hp} {k : Nat → Nat} {st : Db} {m : Bx} {D : Disk} {age c : Nat} {R : Value → Heap → Prop} {b d : Nat} {mp : List Pr} {ml : List (List Pr)}
theorem StoreAt.aft (S : StoreAt B g h q k st m D age c) : Aft B g h q.b k m age c [mapS st] :=
 ⟨⟨q.Sb, S.mem.box, fun c hc => by rw [S.mem.kb c hc]; decide⟩, fun G cr => ⟨mapS st, by simp, S.disk.recS S.lim G cr⟩, S.wt, S.hc, S.mem.own, S.mem.ext⟩
theorem Aft.put {age' c' : Nat} {ml' : List (List Pr)} (a : Aft B g h b k m age c ml) (h1 : age ≤ age') (h2 : c ≤ c') (h3 : c' ≤ B.C) (hm : ∀ x ∈ ml, x ∈ ml') : Aft B g h b k m age' c' ml' :=
 ⟨a.box, fun G cr => by obtain ⟨x, hx, r⟩ := a.tells G cr; exact ⟨x, hm x hx, r.mono h1 h2⟩, Nat.le_trans a.wt (Nat.add_le_add_left (Nat.mul_le_mul_right _ h1) _), h3, a.own, a.ext⟩
theorem Aft.beside {h' : Heap} {X : Nat → Prop} (a : Aft B g h b k m age c ml) (x : Mod X h h') (hX : ∀ c, X c → k c = 0 ∧ g.size ≤ c) : Aft B g h' b k m age c ml := by
 obtain ⟨S, b1, b2⟩ := a.box
 exact ⟨⟨S, b1.mod x fun c hc hx => b2 c hc (hX c hx).1, b2⟩, a.tells, a.wt, a.hc, fun c hc => ⟨(a.own c hc).1, by have := (a.own c hc).2; have := x.size; omega⟩, a.ext.then (x.weak fun c _ hc => .inr (hX c hc).2)⟩
theorem Mode.put {age' c' : Nat} (a : Mode B g h b d k m age c mp) (h1 : age ≤ age') (h2 : c ≤ c') (h3 : c' ≤ B.C) : Mode B g h b d k m age' c' mp := by
 rcases a with ⟨q, st, D, e1, e2, S, e3⟩ | ⟨dn, kd, a⟩
 ·exact .inl ⟨q, st, D, e1, e2, S.put h1 h2 h3, e3⟩
 ·exact .inr ⟨dn, kd, a.put h1 h2 h3 fun x hx => hx⟩
theorem Mode.beside {h' : Heap} {X : Nat → Prop} (a : Mode B g h b d k m age c mp) (x : Mod X h h') (hX : ∀ c, X c → k c = 0 ∧ g.size ≤ c) : Mode B g h' b d k m age c mp := by
 rcases a with ⟨q, st, D, e1, e2, S, e3⟩ | ⟨dn, kd, a⟩
 ·exact .inl ⟨q, st, D, e1, e2, S.beside x hX, e3⟩
 ·exact .inr ⟨dn.mod x fun hx => kd (hX d hx).1, kd, a.beside x hX⟩
theorem Mode.on {h' : Heap} (a : Mode B g h b d k m age c mp) (x : Ext h h') : Mode B g h' b d k m age c mp := a.beside x fun _ h => h.elim
theorem Mode.aft (a : Mode B g h b d k m age c mp) : Aft B g h b k m age c [mp] := by
 rcases a with ⟨q, st, D, e1, e2, S, e3⟩ | ⟨dn, kd, a⟩
 ·subst e1 e3; exact S.aft
 ·exact a
theorem Aft.free (a : Aft B g h b k m age c ml) {x : Nat} (hx : h.size ≤ x) : k x = 0 := Decidable.byContradiction fun hk => by
 have := (a.own x hk).2; omega
theorem Aft.base (a : Aft B g h b k m age c ml) {x : Nat} (hx : x < g.size) : k x = 0 := Decidable.byContradiction fun hk => by
 have := (a.own x hk).1; omega
open Classical in
noncomputable def fellK (k : Nat → Nat) (n n' : Nat) : Nat → Nat := fun c => if k c ≠ 0 then k c else if n ≤ c ∧ c < n' then 9 else 0
theorem fellK_old {k : Nat → Nat} {n n' c : Nat} (h : k c ≠ 0) : fellK k n n' c ≠ 0 := by unfold fellK; rw [if_pos h]; exact h
theorem fellK_new {k : Nat → Nat} {n n' c : Nat} (h : n ≤ c ∧ c < n') : fellK k n n' c ≠ 0 := by
 unfold fellK
 split
 ·assumption
 ·decide
theorem fellK_sub {k : Nat → Nat} {n n' c : Nat} (h : fellK k n n' c ≠ 0) : k c ≠ 0 ∨ (n ≤ c ∧ c < n') := by
 unfold fellK at h
 split at h
 ·rename_i h1; exact .inl h1
 ·split at h
  ·rename_i h2; exact .inr h2
  ·exact absurd rfl h
theorem Fell.aft {h' : Heap} {m' : Bx} {age' c' : Nat} (F : Fell B h h' q k m m' age') (S : StoreAt B g h q k st m D age c) (hc : c' ≤ B.C) (hr : ∀ G, CrashTo (ff m') G → ∃ mp ∈ ml, Rec G age' c' mp) :
  Aft B g h' q.b (fellK k h.size h'.size) m' age' c' ml := by
 obtain ⟨S', b1, b2⟩ := F.box
 have sz := F.mod.size
 refine ⟨⟨S', b1, fun c hc => ?_⟩, hr, F.wt, hc, fun c hc => ?_, S.mem.ext.then (F.mod.weak fun c _ hc => .inr (S.mem.own c hc).1)⟩
 ·rcases b2 c hc with h1 | h1
  ·exact fellK_old h1
  ·exact fellK_new ⟨h1, b1.lt hc⟩
 ·have := S.mem.ext.size
  rcases fellK_sub hc with h1 | h1
  ·have := S.mem.own c h1; omega
  ·omega
theorem fell_sub {n n' : Nat} : ∀ c, fellK k n n' c ≠ 0 → k c ≠ 0 ∨ n ≤ c := fun c hc => (fellK_sub hc).imp id fun h => h.1
theorem Mode.write {s : Sl} {l : List Pr} (E : Evn g) (a : Mode B g h b d k m age c mp) (hA : age + 3 ≤ B.A) (hC : c + 64 ≤ B.C) (v : View PairE h s l) (hs : l ≠ [] → ∀ b, s.blk = some b → b < h.size ∧ k b = 0) (hck : checkL l = 0)
  (H1 : ∀ h' k' m', Mode B g h' b d k' m' (age + 3) (c + 64) (wrL mp l) → Mod (fun c => k c ≠ 0) h h' → (∀ c, k' c ≠ 0 → k c ≠ 0 ∨ h.size ≤ c) → R (.int .i64 0) h')
  (H0 : ∀ h' k' m', Aft B g h' b k' m' (age + 3) (c + 64) [mp, wrL mp l] → Mod (fun c => k c ≠ 0) h h' → (∀ c, k' c ≠ 0 → k c ≠ 0 ∨ h.size ≤ c) → R (.int .i64 30) h') :
  HCalls A P f_lsm_DB_Write #[ptrV d, .slice s.p s.len s.cap] h R := by
 have hl := (check_bat hck).1.len
 rcases a with ⟨q, st, D, e1, e2, S, e3⟩ | ⟨dn, kd, a⟩
 ·subst e1 e2 e3
  refine Write_ok (B := B) (s := s) E S hA v hs (fun _ => by omega) (fun hne => absurd hck hne) (fun _ h' m' fe hr => ?_) (fun _ h' m' fe hr => ?_) fun _ h' q' k' st' m' D' ed eb S' sty wr ot md kk => ?_
  ·refine H0 h' _ m' (fe.aft S hC fun G cr => ?_) fe.mod fell_sub
   rcases hr G cr with h1 | h1
   ·exact ⟨_, by simp, h1.mono (Nat.le_refl _) (by omega)⟩
   ·exact ⟨_, by simp, h1.mono (Nat.le_refl _) (by omega)⟩
  ·refine H1 h' _ m' (.inr ⟨fe.dn, fellK_old (by rw [S.mem.kd]; decide), fe.aft S hC fun G cr => ⟨_, by simp, (hr G cr).mono (Nat.le_refl _) (by omega)⟩⟩) fe.mod fell_sub
  ·exact H1 h' k' m' (.inl ⟨q', st', D', eb, ed, S'.put (Nat.le_refl _) (by omega) hC, wr.map⟩) md kk
 ·refine ok_lsm_DB_Write ?_
  unfold F_lsm_DB_Write
  refine Join.mk fun K hK => down_at dn (hK _ _ (PIf.yes rfl ?_))
  exact H0 h k m (a.put (by omega) (by omega) hC fun x hx => by simp at hx; simp [hx]) Mod.refl fun c hc => .inl hc
theorem Mode.flush (E : Evn g) (a : Mode B g h b d k m age c mp) (hA : age + 3 ≤ B.A)
  (H1 : ∀ h' k' m', Mode B g h' b d k' m' (age + 3) c mp → Mod (fun c => k c ≠ 0) h h' → (∀ c, k' c ≠ 0 → k c ≠ 0 ∨ h.size ≤ c) → R (.int .i64 0) h')
  (H0 : ∀ h' k' m', Aft B g h' b k' m' (age + 3) c [mp] → Mod (fun c => k c ≠ 0) h h' → (∀ c, k' c ≠ 0 → k c ≠ 0 ∨ h.size ≤ c) → R (.int .i64 30) h') :
  HCalls A P f_lsm_DB_Flush #[ptrV d] h R := by
 rcases a with ⟨q, st, D, e1, e2, S, e3⟩ | ⟨dn, kd, a⟩
 ·subst e1 e2 e3
  refine Flush_ok (B := B) E S (by omega) (fun h' m' fe hr => ?_) fun h' q' k' st' m' D' ed eb S' sty fr mp' ts ot md kk => ?_
  ·exact H0 h' _ m' ((fe.aft S S.hc fun G cr => ⟨_, List.mem_singleton.2 rfl, hr G cr⟩).put (by omega) (Nat.le_refl _) S.hc fun x hx => hx) fe.mod fell_sub
  ·exact H1 h' k' m' (.inl ⟨q', st', D', eb, ed, S'.put (by omega) (Nat.le_refl _) S.hc, mp'⟩) md kk
 ·refine ok_lsm_DB_Flush ?_
  unfold F_lsm_DB_Flush
  refine Join.mk fun K hK => down_at dn (hK _ _ (PIf.yes rfl ?_))
  exact H0 h k m (a.put (by omega) (Nat.le_refl _) a.hc fun x hx => hx) Mod.refl fun c hc => .inl hc
theorem Mode.compact (E : Evn g) (a : Mode B g h b d k m age c mp) (hA : age + 3 ≤ B.A)
  (H1 : ∀ h' k' m', Mode B g h' b d k' m' (age + 3) c mp → Mod (fun c => k c ≠ 0) h h' → (∀ c, k' c ≠ 0 → k c ≠ 0 ∨ h.size ≤ c) → R (.int .i64 0) h')
  (H0 : ∀ h' k' m', Aft B g h' b k' m' (age + 3) c [mp] → Mod (fun c => k c ≠ 0) h h' → (∀ c, k' c ≠ 0 → k c ≠ 0 ∨ h.size ≤ c) → R (.int .i64 30) h') :
  HCalls A P f_lsm_DB_Compact #[ptrV d] h R := by
 rcases a with ⟨q, st, D, e1, e2, S, e3⟩ | ⟨dn, kd, a⟩
 ·subst e1 e2 e3
  refine Compact_ok (B := B) E S (by omega) (fun h' m' fe hr => ?_) fun h' q' k' st' m' D' ed eb S' sty fr mp' ts ot md kk => ?_
  ·exact H0 h' _ m' ((fe.aft S S.hc fun G cr => ⟨_, List.mem_singleton.2 rfl, hr G cr⟩).put (by omega) (Nat.le_refl _) S.hc fun x hx => hx) fe.mod fell_sub
  ·exact H1 h' k' m' (.inl ⟨q', st', D', eb, ed, S'.put (by omega) (Nat.le_refl _) S.hc, mp'⟩) md kk
 ·refine ok_lsm_DB_Compact ?_
  unfold F_lsm_DB_Compact
  refine Join.mk fun K hK => down_at dn (hK _ _ (PIf.yes rfl ?_))
  exact H0 h k m (a.put (by omega) (Nat.le_refl _) a.hc fun x hx => hx) Mod.refl fun c hc => .inl hc
/-- fuel is set -/
theorem StoreAt.fuel {h' : Heap} {n : Int} (S : StoreAt B g h q k st m D age c) (Bx : IsBox h' q.b q.Sb (fuelB m n)) (md : Mod q.Sb h h') : StoreAt B g h' q (extK k h.size q.Sb 2) st (fuelB m n) D age c := by
 have W := S.mem.boxed (j := 0) (st' := st) Bx (md.weak fun c _ hc => .inl hc) (fun c hc => .inl hc) rfl rfl rfl rfl (.inl ⟨by decide, rfl, rfl⟩) (.inl ⟨by decide, rfl⟩)
 exact ⟨W, S.up, S.disk, S.lim, S.wt, S.hc⟩
/-- the maps that may be told -/
structure MayAt (h : Heap) (k : Nat → Nat) (bm : Nat) (may : Sl) (ml : List (List Pr)) : Prop where
 ex : ∃ sls : List Sl, Own SlE t_wherryref09_Map h may sls ∧ sls.length = ml.length ∧ ∀ (j : Nat) s mp, sls[j]? = some s → ml[j]? = some mp → View PairE h s mp ∧ ∀ c, s.blk = some c → k c = 0 ∧ c < h.size ∧ c ≠ bm ∧ may.blk ≠ some c
 blk : ∀ c, may.blk = some c → k c = 0 ∧ c < h.size ∧ c ≠ bm
theorem MayAt.step {h' : Heap} {k' : Nat → Nat} {bm : Nat} {may : Sl} {S : Nat → Prop} (M : MayAt h k bm may ml) (md : Mod S h h') (hS : ∀ c, S c → (k c ≠ 0 ∨ h.size ≤ c) ∨ c = bm) (hk : ∀ c, k' c ≠ 0 → k c ≠ 0 ∨ h.size ≤ c) : MayAt h' k' bm may ml := by
 have sz := md.size
 have nk : ∀ c, k c = 0 → c < h.size → k' c = 0 := fun c h1 h2 => Decidable.byContradiction fun h3 => by
  rcases hk c h3 with h4 | h4
  ·exact h4 h1
  ·omega
 have ns : ∀ c, k c = 0 → c < h.size → c ≠ bm → ¬ S c := fun c h1 h2 h5 h3 => by
  rcases hS c h3 with (h4 | h4) | h4
  ·exact h4 h1
  ·omega
  ·exact h5 h4
 obtain ⟨sls, o, hl, hv⟩ := M.ex
 refine ⟨⟨sls, o.mod md fun c hc => ns c (M.blk c hc).1 (M.blk c hc).2.1 (M.blk c hc).2.2, hl, fun j s mp h1 h2 => ?_⟩, fun c hc => ?_⟩
 ·obtain ⟨v, hb⟩ := hv j s mp h1 h2
  refine ⟨v.mod md fun c hc => ns c (hb c hc).1 (hb c hc).2.1 (hb c hc).2.2.1, fun c hc => ?_⟩
  obtain ⟨h3, h4, h5, h6⟩ := hb c hc
  exact ⟨nk c h3 h4, by omega, h5, h6⟩
 ·obtain ⟨h3, h4, h5⟩ := M.blk c hc
  exact ⟨nk c h3 h4, by omega, h5⟩
theorem MayAt.ext {h' : Heap} {bm : Nat} {may : Sl} (M : MayAt h k bm may ml) (x : Ext h h') : MayAt h' k bm may ml := M.step x (fun _ h => h.elim) fun c hc => .inl hc
/-- one map alone -/
theorem MayAt.one {h' : Heap} {bm : Nat} {sm : Sl} (M : MapAt h k bm sm mp) (hb : h'[h.size]? = some (.cells #[.slice sm.p sm.len sm.cap] t_wherryref09_Map (0, 0))) (x : Ext h h') (hk : k h.size = 0) : MayAt h' k bm ⟨some ⟨h.size, 0, none⟩, 1, 1⟩ [mp] := by
 have hlt := blk_lt hb
 have hbm := M.lt
 refine ⟨⟨[sm], Own.lit (E := SlE) (l := [sm]) hb rfl (by simp [maxLen]), rfl, fun j s mp' h1 h2 => ?_⟩, fun c hc => ?_⟩
 ·match j, h1, h2 with
  | 0, h1, h2 =>
   simp at h1 h2
   subst h1 h2
   refine ⟨M.view.ext x, fun c hc => ?_⟩
   obtain ⟨b1, b2, b3⟩ := M.blk c hc
   refine ⟨b1, by omega, b3, fun e => ?_⟩
   have : h.size = c := by simpa [Sl.blk] using e
   omega
  | j + 1, h1, h2 => simp at h1
 ·have : h.size = c := by simpa [Sl.blk] using hc
  subst this
  exact ⟨hk, hlt, by omega⟩
end
end Go.Lf.G

