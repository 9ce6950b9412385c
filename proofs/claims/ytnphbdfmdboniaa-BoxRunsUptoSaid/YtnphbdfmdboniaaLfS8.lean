/-
  The statements BoxApart, BoxRuns over the formulas.
-/
import Derived.Test.YtnphbdfmdboniaaLfS7
set_option maxRecDepth 100000
set_option linter.unusedVariables false
set_option linter.unusedSimpArgs false
namespace Go.Lf.G
open Go

structure Cl where
  kind : Int
  name : ByteArray
  data : ByteArray
  n : Int
  keep : Sl
def ClE : Enc Cl where
  enc x := [.int .i64 x.kind, .string x.name, .string x.data, .int .i64 x.n, .slice x.keep.p x.keep.len x.keep.cap]
  w := 5
  len _ := rfl
  pos := by omega
  one x v hv := by simp at hv; rcases hv with rfl | rfl | rfl | rfl | rfl <;> rfl
theorem cells_cl {h : Heap} {a : Addr} {x : Cl} (c : Cells h a (ClE.enc x)) : hget h a = some (.int .i64 x.kind) ∧ hget h (a.add 1) = some (.string x.name) ∧ hget h (a.add 2) = some (.string x.data) ∧ hget h (a.add 3) = some (.int .i64 x.n) ∧ hget h (a.add 4) = some (.slice x.keep.p x.keep.len x.keep.cap) := by
  have h0 := c 0 _ rfl
  rw [add_zero] at h0
  exact ⟨h0, c 1 _ rfl, c 2 _ rfl, c 3 _ rfl, c 4 _ rfl⟩
def sumC (l : List Cl) : Nat := (l.map fun c => c.data.size + 1).sum
theorem sumC_snoc (l : List Cl) (x : Cl) : sumC (l ++ [x]) = sumC l + (x.data.size + 1) := by simp [sumC]
theorem sumC_take (i : Nat) : ∀ (l : List Cl), sumC (l.take i) ≤ sumC l := by
  induction i with
  | zero => intro l; simp [sumC]
  | succ i ih => intro l; cases l with
    | nil => simp
    | cons x l => have := ih l; simp [sumC] at this ⊢; omega
theorem sumC_len : ∀ (l : List Cl), l.length ≤ sumC l
  | [] => by simp [sumC]
  | x :: l => by have := sumC_len l; simp [sumC] at this ⊢; omega

/-! ### BoxApart -/
abbrev nmM : ByteArray := ⟨#[109, 105, 110, 101]⟩
structure MineM (m : Bx) (mine : ByteArray) : Prop where
  fuel : m.fuel = -1
  down : m.down = false
  there : ∃ f, findF nmM m.files = some f ∧ f.firm ++ f.soft = mine
theorem MineM.read {m : Bx} {mine : ByteArray} (M : MineM m mine) : readB m nmM = (mine, 0) := by
  obtain ⟨f, h1, h2⟩ := M.there
  unfold readB
  rw [M.down, h1]; simp [h2]
theorem tick_free {m : Bx} (h : m.fuel = -1) : tickB m = m := by unfold tickB; rw [if_neg (by omega)]
theorem MineM.append {m : Bx} {mine : ByteArray} (g : GoodB m) (M : MineM m mine) {name data : ByteArray} (hn : ¬ name = nmM) : MineM (appendB m name data).2 mine := by
  unfold appendB
  rw [M.down, if_neg (by simp)]
  split
  · exact M
  · rw [if_neg (by rw [M.fuel]; decide), tick_free M.fuel]
    refine ⟨M.fuel, M.down, ?_⟩
    obtain ⟨f, h1, h2⟩ := M.there
    refine ⟨f, ?_, h2⟩
    show findF nmM (updF name (addF data) (haveF name m.files)) = _
    rw [findF_upd (g := addF data) (fun _ => rfl)]
    have h3 : findF nmM (haveF name m.files) = some f := by
      unfold haveF
      split
      · exact h1
      · rename_i h
        rw [findF_ins (x := ⟨name, bs0, bs0⟩) (findF_none (by simpa using h)), if_neg hn, h1]
    rw [h3]
    have : ¬ f.name = name := by rw [(findF_some h1).1]; exact fun e => hn e.symm
    simp [this]
theorem MineM.sync {m : Bx} {mine : ByteArray} (M : MineM m mine) {name : ByteArray} (hn : ¬ name = nmM) : MineM (syncB m name).2 mine := by
  unfold syncB
  rw [M.down, if_neg (by simp)]
  split
  · exact M
  · rw [if_neg (by rw [M.fuel]; decide), tick_free M.fuel]
    refine ⟨M.fuel, M.down, ?_⟩
    obtain ⟨f, h1, h2⟩ := M.there
    refine ⟨f, ?_, h2⟩
    show findF nmM (updF name firmF m.files) = _
    rw [findF_upd (g := firmF) (fun _ => rfl), h1]
    have : ¬ f.name = name := by rw [(findF_some h1).1]; exact fun e => hn e.symm
    simp [this]
theorem MineM.delete {m : Bx} {mine : ByteArray} (M : MineM m mine) {name : ByteArray} (hn : ¬ name = nmM) : MineM (deleteB m name).2 mine := by
  unfold deleteB
  rw [M.down, if_neg (by simp)]
  split
  · exact M
  · rw [if_neg (by rw [M.fuel]; decide), tick_free M.fuel]
    refine ⟨M.fuel, M.down, ?_⟩
    obtain ⟨f, h1, h2⟩ := M.there
    refine ⟨f, ?_, h2⟩
    show findF nmM (delF name m.files) = _
    rw [findF_del, if_neg (fun e => hn e.symm), h1]

theorem BoxApart_ok {A : Amb} {h : Heap} {calls : Sl} {l : List Cl} {mine : ByteArray} {R : Value → Heap → Prop} (v : View ClE h calls l) (hsum : sumC l + mine.size ≤ 4194304) (H : ∀ h', Ext h h' → R (.bool true) h') :
    HCalls A P f_wherrylaw03_BoxApart #[.slice calls.p calls.len calls.cap, .string mine] h R := by
  refine ok_wherrylaw03_BoxApart ?_
  unfold F_wherrylaw03_BoxApart
  refine awake03_ok fun h1 x1 => ⟨_, rfl, PIf.no rfl ?_⟩
  refine bNew_ok fun b h2 S2 B2 x2 f2 => ⟨_, rfl, ?_⟩
  have hll := sumC_len l
  refine bAppend_ok B2 (by show 0 + mine.size + 1 ≤ _; omega) fun h3 S3 B3 m3 f3 => ⟨_, rfl, ?_⟩
  have e1 : appendB newB nmM mine = (0, ⟨[⟨nmM, bs0, mine⟩], -1, false⟩) := by
    have hb : badName nmM = false := by decide
    simp [appendB, newB, hb, tickB, haveF, findF, insF, updF, addF, nil_app]
  rw [e1] at B3 ⊢
  refine PIf.no rfl ?_
  have f2' : ∀ c, S2 c → h.size ≤ c := fun c hc => by have := f2 c hc; have := x1.size; omega
  have x12 : Ext h h2 := x1.trans x2
  have f3' : ∀ c, S3 c → h.size ≤ c := fun c hc => (f3 c hc).elim (f2' c) fun h => by have := x12.size; omega
  refine Loop.rule (fun q x hh => ∃ (i : Nat) (S : Nat → Prop) (m : Bx), x = ((i : Int), ()) ∧ q = l.length - i ∧ i ≤ l.length ∧ IsBox hh b S m ∧ MineM m mine ∧ wtF m.files ≤ mine.size + 1 + sumC (l.take i) ∧ (∀ c, S c → h.size ≤ c) ∧ Ext h hh) ?_
    ⟨0, S3, _, rfl, rfl, by omega, B3, ⟨rfl, rfl, _, by simp [findF]; rfl, by rw [nil_app]⟩, by simp [wtF, sz0], f3', x12.then (m3.weak fun c _ hc => .inr (f2' c hc))⟩
  rintro K q _ hh ⟨i, S, m, rfl, rfl, hi, Bi, Mi, hwt, fi, xi⟩ hK
  refine PIf.intro (fun hq => ?_) (fun hq => H hh xi)
  have hil : i < l.length := by simpa [v.len] using hq
  have hg := List.getElem?_eq_getElem hil
  generalize l[i] = x at hg
  have hsn : l.take (i + 1) = l.take i ++ [x] := by rw [List.take_add_one, hg]; rfl
  have hs1 := sumC_take (i + 1) l
  rw [hsn, sumC_snoc] at hs1
  refine Join.mk fun K1 hK1 => ?_
  refine (v.ext xi).idx hg fun a _ ca => ?_
  obtain ⟨c0, c1, c2, c3, c4⟩ := cells_cl ca
  refine LoadI.mk c0 (LoadS.mk c1 (LoadS.mk c2 (LoadI.mk c3 (LoadL.mk c4 ?_))))
  refine New.copy5 fun bc h11 eb hb11 x11 hs11 => ?_
  have B11 := Bi.ext x11
  have xi11 := xi.trans x11
  have next : ∀ h5 S5 m5, IsBox h5 b S5 m5 → MineM m5 mine → wtF m5.files ≤ mine.size + 1 + sumC (l.take (i + 1)) → (∀ c, S5 c → h.size ≤ c) → Ext h h5 → K1 () h5 := fun h5 S5 m5 B5 M5 w5 f5 x5 =>
    hK1 _ _ (hK (l.length - (i + 1)) _ _ (by omega) ⟨i + 1, S5, m5, by rw [wrap_succ (by omega)], rfl, hil, B5, M5, w5, f5, x5⟩)
  refine LoadS.mk (hget_lit1 hb11 rfl) ?_
  rw [sEq_iff]
  refine PIf.intro (fun hq => next h11 S m B11 Mi (by rw [hsn, sumC_snoc]; omega) fi xi11) (fun hq => ?_)
  have hn : ¬ x.name = nmM := by simpa using hq
  refine LoadI.mk (hget_lit hb11 rfl) (Join.mk fun K2 hK2 => ?_)
  have key : ∀ h5 S5 m5, IsBox h5 b S5 m5 → MineM m5 mine → wtF m5.files ≤ mine.size + 1 + sumC (l.take (i + 1)) → (∀ c, S5 c → h.size ≤ c) → Ext h h5 → K2 () h5 := fun h5 S5 m5 B5 M5 w5 f5 x5 => hK2 _ _ (by
    refine bRead_ok B5 ⟨_, _, rfl, Join.mk fun K3 hK3 => ?_⟩
    rw [M5.read]
    exact PIf.no rfl (hK3 _ _ (PIf.no (by rw [sEq_iff]; simp) (next h5 S5 m5 B5 M5 w5 f5 x5))))
  have w11 : wtF m.files ≤ mine.size + 1 + sumC (l.take (i + 1)) := by rw [hsn, sumC_snoc]; omega
  have fu : ∀ {S5 : Nat → Prop}, (∀ c, S5 c → S c ∨ h11.size ≤ c) → ∀ c, S5 c → h.size ≤ c := fun f5 c hc => (f5 c hc).elim (fi c) fun h => by have := xi11.size; omega
  refine PIf.intro (fun hq => ?_) (fun hq => ?_)
  · refine LoadS.mk (hget_lit1 hb11 rfl) (LoadS.mk (hget_lit1 hb11 rfl) ?_)
    refine bAppend_ok B11 (by omega) fun h5 S5 B5 m5 f5 => ⟨_, rfl, ?_⟩
    refine key h5 S5 _ B5 (Mi.append Bi.good hn) ?_ (fu f5) (xi11.then (m5.weak fun c _ hc => .inr (fi c hc)))
    have := wt_append Bi.good x.name x.data
    rw [hsn, sumC_snoc]; omega
  · refine PIf.intro (fun hq => ?_) (fun hq => ?_)
    · refine LoadS.mk (hget_lit1 hb11 rfl) ?_
      refine bSync_ok B11 fun h5 B5 m5 => ⟨_, rfl, ?_⟩
      exact key h5 S _ B5 (Mi.sync hn) (Nat.le_trans (wt_sync Bi.good x.name) w11) fi (xi11.then (m5.weak fun c _ hc => .inr (fi c hc)))
    · refine PIf.intro (fun hq => ?_) (fun hq => key h11 S m B11 Mi w11 fi xi11)
      refine LoadS.mk (hget_lit1 hb11 rfl) ?_
      refine bDelete_ok B11 fun h5 S5 B5 m5 f5 => ⟨_, rfl, ?_⟩
      exact key h5 S5 _ B5 (Mi.delete hn) (Nat.le_trans (wt_delete x.name) w11) (fun c hc => fi c (f5 c hc)) (xi11.then (m5.weak fun c _ hc => .inr (fi c hc)))

/-! ### BoxRuns -/
theorem append_off (m : Bx) (n d : ByteArray) : appendB (offB m) n d = (30, offB m) := rfl
theorem sync_off (m : Bx) (n : ByteArray) : syncB (offB m) n = (30, offB m) := rfl
theorem delete_off (m : Bx) (n : ByteArray) : deleteB (offB m) n = (30, offB m) := rfl

theorem BoxRuns_ok {A : Amb} {h : Heap} {calls : Sl} {l : List Cl} {R : Value → Heap → Prop} (v : View ClE h calls l) (hk : ∀ c ∈ l, c.n ≤ 9223372036854775807 ∧ ∃ ks, View IntE h c.keep ks) (hsum : sumC l ≤ 4194304) (H : ∀ h', Ext h h' → R (.bool true) h') :
    HCalls A P f_wherrylaw03_BoxRuns #[.slice calls.p calls.len calls.cap] h R := by
  refine ok_wherrylaw03_BoxRuns ?_
  unfold F_wherrylaw03_BoxRuns
  refine awake03_ok fun h1 x1 => ⟨_, rfl, PIf.no rfl ?_⟩
  refine bNew_ok fun b0 h2 S2 B2 x2 f2 => ⟨_, rfl, ?_⟩
  refine rNew_ok fun h3 C3 x3 hs3 => ⟨_, rfl, ?_⟩
  have hll := sumC_len l
  have x02 : Ext h h2 := x1.trans x2
  refine Loop.rule (fun q x hh => ∃ (i b c : Nat) (S S' : Nat → Prop) (m : Bx), x = (some ⟨b, 0, none⟩, some ⟨c, 0, none⟩, (i : Int), ()) ∧ q = l.length - i ∧ i ≤ l.length ∧ IsBox hh b S m ∧ IsRef hh c S' m ∧ (∀ c, S c → ¬ S' c) ∧ wtF m.files ≤ sumC (l.take i) ∧ (∀ c, S c → h.size ≤ c) ∧ (∀ c, S' c → h.size ≤ c) ∧ Ext h hh) ?_
    ⟨0, b0, h2.size, S2, footR h2.size ⟨none, 0, 0⟩, newB, rfl, rfl, by omega, B2.ext x3, ⟨_, C3, fun _ => Iff.rfl⟩, ?_, by simp [wtF, newB, sumC], fun c hc => by have := f2 c hc; have := x1.size; omega, ?_, x02.trans x3⟩
  rotate_left
  · rintro c hc (rfl | h)
    · have := B2.lt hc; omega
    · simp [Sl.blk] at h
  · rintro c (rfl | h)
    · exact x02.size
    · simp [Sl.blk] at h
  rintro K q _ hh ⟨i, b, c, S, S', m, rfl, rfl, hi, Bi, Ci, hd, hwt, fS, fS', xi⟩ hK
  refine PIf.intro (fun hq => ?_) (fun hq => ?_)
  rotate_left
  · exact same03_ok Bi Ci fun h' x' => ⟨_, rfl, H h' (xi.trans x')⟩
  have hil : i < l.length := by simpa [v.len] using hq
  have hg := List.getElem?_eq_getElem hil
  generalize l[i] = x at hg
  have hmem : x ∈ l := List.mem_of_getElem? hg
  obtain ⟨hxn, ks, vk⟩ := hk x hmem
  have hsn : l.take (i + 1) = l.take i ++ [x] := by rw [List.take_add_one, hg]; rfl
  have hs1 := sumC_take (i + 1) l
  rw [hsn, sumC_snoc] at hs1
  refine (v.ext xi).idx hg fun a _ ca => ?_
  obtain ⟨c0, c1, c2, c3, c4⟩ := cells_cl ca
  refine LoadI.mk c0 (LoadS.mk c1 (LoadS.mk c2 (LoadI.mk c3 (LoadL.mk c4 ?_))))
  refine New.copy5 fun bc h10 eb hb10 x10 hs10 => ?_
  have B10 := Bi.ext x10
  have C10 := Ci.ext x10
  have xi10 := xi.trans x10
  have hbc : ∀ {d}, S d ∨ S' d → d ≠ bc := fun h e => by
    subst e
    rcases h with h | h
    · have := Bi.lt h; omega
    · have := Ci.lt h; omega
  refine LoadI.mk (hget_lit hb10 rfl) (Join.mk fun K1 hK1 => ?_)
  have next : ∀ h5 b5 c5 S5 T5 m5, IsBox h5 b5 S5 m5 → IsRef h5 c5 T5 m5 → (∀ c, S5 c → ¬ T5 c) → wtF m5.files ≤ sumC (l.take (i + 1)) → (∀ c, S5 c → h.size ≤ c) → (∀ c, T5 c → h.size ≤ c) → Ext h h5 → K1 (some ⟨b5, 0, none⟩, some ⟨c5, 0, none⟩, ()) h5 := fun h5 b5 c5 S5 T5 m5 B5 C5 d5 w5 f5 g5 x5 =>
    hK1 _ _ (hK (l.length - (i + 1)) _ _ (by omega) ⟨i + 1, b5, c5, S5, T5, m5, by rw [wrap_succ (by omega)], rfl, hil, B5, C5, d5, w5, f5, g5, x5⟩)
  have w10 : wtF m.files ≤ sumC (l.take (i + 1)) := by rw [hsn, sumC_snoc]; omega
  refine PIf.intro (fun hq => ?_) (fun hq => ?_)
  · -- Append
    refine LoadS.mk (hget_lit1 hb10 rfl) (LoadS.mk (hget_lit1 hb10 rfl) ?_)
    refine bAppend_ok B10 (by omega) fun h12 S12 B12 m12 f12 => ⟨_, rfl, ?_⟩
    have hb12 := m12.blk hb10 (fun h => hbc (.inl h) rfl)
    refine LoadS.mk (hget_lit1 hb12 rfl) ⟨hget_lit1 hb10 rfl, LoadS.mk (hget_lit1 hb12 rfl) ⟨hget_lit1 hb10 rfl, ?_⟩⟩
    have C12 := C10.mod m12 (fun c h1 h2 => hd c h2 h1)
    refine rAppend_ok C12 (by omega) fun h13 T13 C13 m13 f13 => ⟨_, rfl, PIf.no (by simp) ?_⟩
    have hwa := wt_append Bi.good x.name x.data
    have h1210 := m12.size
    have hlt12 : ∀ c, S' c → c < h10.size := fun c hc => C10.lt hc
    have B13 := B12.mod m13 (fun c h1 h2 => by
      rcases f12 c h1 with h | h
      · exact hd c h h2
      · have := hlt12 c h2; omega)
    refine next h13 b c S12 T13 _ B13 C13 ?_ (by rw [hsn, sumC_snoc]; omega) (fun c hc => (f12 c hc).elim (fS c) fun h => by have := xi10.size; omega) (fun c hc => (f13 c hc).elim (fS' c) fun h => by have := xi10.size; omega) ?_
    · intro d h1 h2
      rcases f13 d h2 with h3 | h3
      · rcases f12 d h1 with h4 | h4
        · exact hd d h4 h3
        · have := hlt12 d h3; omega
      · have := B12.lt h1; omega
    · exact (xi10.then (m12.weak fun c _ hc => .inr (fS c hc))).then (m13.weak fun c _ hc => .inr (fS' c hc))
  refine PIf.intro (fun hq => ?_) (fun hq => ?_)
  · -- Sync
    refine LoadS.mk (hget_lit1 hb10 rfl) ?_
    refine bSync_ok B10 fun h12 B12 m12 => ⟨_, rfl, ?_⟩
    have hb12 := m12.blk hb10 (fun h => hbc (.inl h) rfl)
    refine LoadS.mk (hget_lit1 hb12 rfl) ⟨hget_lit1 hb10 rfl, ?_⟩
    have C12 := C10.mod m12 (fun c h1 h2 => hd c h2 h1)
    refine rSync_ok C12 fun h13 C13 m13 => ⟨_, rfl, PIf.no (by simp) ?_⟩
    have B13 := B12.mod m13 (fun c h1 h2 => hd c h1 h2)
    exact next h13 b c S S' _ B13 C13 hd (Nat.le_trans (wt_sync Bi.good x.name) w10) fS fS' ((xi10.then (m12.weak fun c _ hc => .inr (fS c hc))).then (m13.weak fun c _ hc => .inr (fS' c hc)))
  refine PIf.intro (fun hq => ?_) (fun hq => ?_)
  · -- Delete
    refine LoadS.mk (hget_lit1 hb10 rfl) ?_
    refine bDelete_ok B10 fun h12 S12 B12 m12 f12 => ⟨_, rfl, ?_⟩
    have hb12 := m12.blk hb10 (fun h => hbc (.inl h) rfl)
    refine LoadS.mk (hget_lit1 hb12 rfl) ⟨hget_lit1 hb10 rfl, ?_⟩
    have C12 := C10.mod m12 (fun c h1 h2 => hd c h2 h1)
    refine rDelete_ok C12 fun h13 T13 C13 m13 f13 => ⟨_, rfl, PIf.no (by simp) ?_⟩
    have h1210 := m12.size
    have B13 := B12.mod m13 (fun c h1 h2 => hd c (f12 c h1) h2)
    refine next h13 b c S12 T13 _ B13 C13 ?_ (Nat.le_trans (wt_delete x.name) w10) (fun c hc => fS c (f12 c hc)) (fun c hc => (f13 c hc).elim (fS' c) fun h => by have := xi10.size; omega) ?_
    · intro d h1 h2
      rcases f13 d h2 with h3 | h3
      · exact hd d (f12 d h1) h3
      · have := B12.lt h1; omega
    · exact (xi10.then (m12.weak fun c _ hc => .inr (fS c hc))).then (m13.weak fun c _ hc => .inr (fS' c hc))
  refine PIf.intro (fun hq => ?_) (fun hq => ?_)
  · -- Fuel
    refine LoadI.mk (hget_lit1 hb10 rfl) ?_
    refine bFuel_ok B10 hxn fun h12 B12 m12 => ⟨rfl, ?_⟩
    have hb12 := m12.blk hb10 (fun h => hbc (.inl h) rfl)
    refine LoadI.mk (hget_lit1 hb12 rfl) ?_
    have C12 := C10.mod m12 (fun c h1 h2 => hd c h2 h1)
    obtain ⟨s, Q, hS'⟩ := C12
    refine atI (Store.mk1 Q.head (by simp) fun h13 hb13 m13 hs13 => ?_)
    have Q13 := Q.hd (m' := fuelB m x.n) (by simpa [fuelB] using hb13) m13 rfl (Bi.good.fuel hxn)
    have hcS' : S' c := (hS' c).2 (.inl rfl)
    have B13 := B12.mod m13 (fun d h1 h2 => by subst h2; exact hd d h1 hcS')
    exact next h13 b c S S' _ B13 ⟨s, Q13, hS'⟩ hd w10 fS fS' ((xi10.then (m12.weak fun c _ hc => .inr (fS c hc))).then (m13.weak fun d _ hc => .inr (by subst hc; exact fS' _ hcS')))
  refine PIf.intro (fun hq => ?_) (fun hq => ?_)
  · -- Crash
    refine LoadL.mk (hget_lit1 hb10 rfl) ?_
    refine bCrash_ok B10 (vk.ext xi10) fun b' h12 S12 O12 B12 m12 f12 => ⟨_, rfl, ?_⟩
    have hb12 := m12.blk hb10 (fun h => hbc (.inl h) rfl)
    refine LoadL.mk (hget_lit1 hb12 rfl) ⟨hget_lit1 hb10 rfl, ?_⟩
    have C12 := C10.mod m12 (fun c h1 h2 => hd c h2 h1)
    have x12 : Ext h h12 := xi10.then (m12.weak fun c _ hc => .inr (fS c hc))
    refine rCrash_ok C12 (vk.ext x12) fun c' h13 T13 P13 C13 m13 f13 => ⟨_, rfl, ?_⟩
    have x13 : Ext h h13 := x12.then (m13.weak fun c _ hc => .inr (fS' c hc))
    have hlt : ∀ c, S' c → c < h10.size := fun c hc => C10.lt hc
    have hltS : ∀ c, S c → c < h10.size := fun c hc => B10.lt hc
    have h1210 := m12.size
    have h1312 := m13.size
    have B13 := B12.mod m13 (fun c h1 h2 => by have := f12 c h1; have := hlt c h2; omega)
    have O13 := O12.mod m13 (fun c h1 h2 => hd c h1 h2)
    refine Join.mk fun K2 hK2 => ?_
    have hoff : wtF (offB m).files = wtF m.files := rfl
    have hs1 : ByteArray.size ⟨#[]⟩ = 0 := rfl
    refine bAppend_ok O13 (by rw [hoff, hs1]; omega) fun h14 S14 O14 m14 f14 => ⟨_, rfl, PIf.no rfl ?_⟩
    have B14 := B13.mod m14 (fun c h1 h2 => by have := f12 c h1; have := hltS c h2; omega)
    have C14 := C13.mod m14 (fun c h1 h2 => by have := f13 c h1; have := hltS c h2; omega)
    have h1413 := m14.size
    rw [append_off] at O14
    refine bSync_ok O14 fun h15 O15 m15 => ⟨_, rfl, PIf.no rfl ?_⟩
    have B15 := B14.mod m15 (fun c h1 h2 => by
      have a1 := f12 c h1; have a2 := B13.lt h1
      rcases f14 c h2 with h3 | h3
      · have := hltS c h3; omega
      · omega)
    have C15 := C14.mod m15 (fun c h1 h2 => by
      have a1 := f13 c h1; have a2 := C13.lt h1
      rcases f14 c h2 with h3 | h3
      · have := hltS c h3; omega
      · omega)
    rw [sync_off] at O15
    refine bDelete_ok O15 fun h16 S16 O16 m16 f16 => ⟨_, rfl, ?_⟩
    have B16 := B15.mod m16 (fun c h1 h2 => by
      have a1 := f12 c h1; have a2 := B13.lt h1
      rcases f14 c h2 with h3 | h3
      · have := hltS c h3; omega
      · omega)
    have C16 := C15.mod m16 (fun c h1 h2 => by
      have a1 := f13 c h1; have a2 := C13.lt h1
      rcases f14 c h2 with h3 | h3
      · have := hltS c h3; omega
      · omega)
    rw [delete_off]
    have f14' : ∀ c, S14 c → h.size ≤ c := fun c hc => (f14 c hc).elim (fS c) fun h => by have := x13.size; omega
    refine hK2 _ _ (PIf.no rfl (next h16 b' c' S12 T13 _ B16 C16 ?_ (Nat.le_trans wt_crash w10) ?_ ?_ ?_))
    · intro d h1 h2
      have := f13 d h2; have := B12.lt h1; omega
    · intro d h1; have := f12 d h1; have := xi10.size; omega
    · intro d h1; have := f13 d h1; have := xi10.size; omega
    · exact ((x13.then (m14.weak fun c _ hc => .inr (fS c hc))).then (m15.weak fun c _ hc => .inr (f14' c hc))).then (m16.weak fun c _ hc => .inr (f14' c hc))
  · -- Read and List
    refine LoadS.mk (hget_lit1 hb10 rfl) ?_
    refine bRead_ok B10 ⟨_, _, rfl, LoadS.mk (hget_lit1 hb10 rfl) (rRead_ok C10 ⟨_, _, rfl, Join.mk fun K3 hK3 => ?_⟩)⟩
    refine PIf.no (by rw [sEq_iff]; simp) (PIf.no (by simp) ?_)
    refine same03_ok B10 C10 fun h12 x12 => ⟨_, rfl, hK3 _ _ (PIf.no rfl ?_)⟩
    exact next h12 b c S S' m (B10.ext x12) (C10.ext x12) hd w10 fS fS' (xi10.trans x12)
end Go.Lf.G
