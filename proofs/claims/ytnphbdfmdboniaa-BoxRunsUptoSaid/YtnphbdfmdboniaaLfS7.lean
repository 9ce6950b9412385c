/-
  The statements BoxParts, BoxFuel, BoxOrder over the formulas.
-/
import Derived.Test.YtnphbdfmdboniaaLfS6
set_option maxRecDepth 100000
set_option linter.unusedVariables false
set_option linter.unusedSimpArgs false
namespace Go.Lf.G
open Go

theorem sumS_len : ∀ (l : List ByteArray), l.length ≤ sumS l
  | [] => by simp [sumS]
  | x :: l => by have := sumS_len l; simp [sumS] at this ⊢; omega
theorem kept_form (keep : List Int) (j : Nat) (f : Fi) : ∃ k, k ≤ f.soft.size ∧ keptF keep j f = f.firm ++ f.soft.extract 0 k := by
  have e0 : ∀ s : ByteArray, s.extract 0 0 = bs0 := fun s => by simp [ByteArray.ext_iff, bs0]
  unfold keptF
  split
  · exact ⟨0, by omega, by rw [e0, app_nil]⟩
  · split
    · exact ⟨_, by omega, rfl⟩
    · exact ⟨0, by omega, by rw [e0, app_nil]⟩
theorem ext_app (a s : ByteArray) (k : Nat) (hk : k ≤ s.size) : (a ++ s).extract 0 (a ++ s.extract 0 k).size = a ++ s.extract 0 k := by
  have h1 : (a ++ s.extract 0 k).size = a.size + k := by rw [size_app, ByteArray.size_extract]; omega
  rw [h1, ByteArray.ext_iff]
  simp only [ByteArray.data_extract, ByteArray.data_append]
  rw [Array.extract_append]
  have h2 : a.data.size = a.size := rfl
  rw [Array.extract_eq_self_of_le (by rw [h2]; omega), h2]
  have h3 : a.size + k - a.size = k := by omega
  simp [h3]

theorem catS_foldl (l : List ByteArray) : ∀ a : ByteArray, l.foldl (· ++ ·) a = a ++ catS l := by
  induction l using snocInd with
  | nil => intro a; simp [catS, app_nil]
  | snoc l y ih => intro a; rw [List.foldl_append, ih a, catS_snoc, ← app_assoc]; rfl

theorem read_new (n : ByteArray) : readB newB n = (bs0, 31) := rfl

theorem BoxParts_ok {A : Amb} {h : Heap} {firm soft keep : Sl} {lf ls : List ByteArray} {ks : List Int} {R : Value → Heap → Prop} (vf : View StrE h firm lf) (vs : View StrE h soft ls) (vk : View IntE h keep ks)
    (hsum : sumS lf + sumS ls ≤ 4194304) (H : ∀ h', Ext h h' → R (.bool true) h') :
    HCalls A P f_wherrylaw03_BoxParts #[.slice firm.p firm.len firm.cap, .slice soft.p soft.len soft.cap, .slice keep.p keep.len keep.cap] h R := by
  refine ok_wherrylaw03_BoxParts ?_
  unfold F_wherrylaw03_BoxParts
  refine awake03_ok fun h1 x1 => ⟨_, rfl, PIf.no rfl ?_⟩
  refine bNew_ok fun b h2 S2 B2 x2 f2 => ⟨_, rfl, ?_⟩
  have hlf := sumS_len lf
  have hls := sumS_len ls
  refine Loop.rule (fun q x hh => ∃ (i : Nat) (S : Nat → Prop), x = (catS (lf.take i), (i : Int), ()) ∧ q = lf.length - i ∧ i ≤ lf.length ∧ IsBox hh b S (oneM (partM none (lf.take i))) ∧ (∀ c, S c → h.size ≤ c) ∧ Ext h hh) ?_
    ⟨0, S2, rfl, rfl, by omega, B2, fun c hc => by have := f2 c hc; have := x1.size; omega, x1.trans x2⟩
  rintro K q _ hh ⟨i, S, rfl, rfl, hi, Bi, fi, xi⟩ hK
  refine PIf.intro (fun hq => ?_) (fun hq => ?_)
  · have hil : i < lf.length := by simpa [vf.len] using hq
    have hg := List.getElem?_eq_getElem hil
    generalize lf[i] = x at hg
    have hsn : lf.take (i + 1) = lf.take i ++ [x] := by rw [List.take_add_one, hg]; rfl
    have hs1 := sumS_take (i + 1) lf
    rw [hsn, sumS_snoc] at hs1
    have hc1 := catS_size (lf.take i)
    refine (vf.ext xi).idx hg fun a _ ca => LoadS.mk ca.str ?_
    refine bAppend_ok Bi (by rw [wt_one]; have := partM_sz none (lf.take i); have h00 : oneSz none = 0 := rfl; omega) fun h3 S3 B3 m3 f3 => ⟨_, rfl, ?_, ?_⟩
    · dsimp only; rw [max_i64]; omega
    rw [append_one] at B3
    refine hK (lf.length - (i + 1)) _ _ (by omega) ⟨i + 1, S3, ?_, rfl, hil, ?_, fun c hc => (f3 c hc).elim (fi c) fun h => by have := xi.size; omega, xi.then (m3.weak fun c _ hc => .inr (fi c hc))⟩
    · rw [wrap_succ (by omega), hsn, catS_snoc]
    · rw [hsn, partM_snoc]; exact B3
  · have hil : i = lf.length := by simp [vf.len] at hq; omega
    subst hil
    rw [List.take_length] at Bi ⊢
    refine Join.mk fun K1 hK1 => ?_
    have key : ∀ h5, IsBox h5 b S (oneM (if lf = [] then none else some (catS lf, bs0))) → Ext h h5 → K1 (catS lf, ()) h5 := fun h5 B5 x5 => hK1 _ _ (by
      generalize ho : (if lf = [] then none else some (catS lf, bs0)) = o1 at B5
      have ho1 : oneSz o1 ≤ sumS lf + 1 := by
        rw [← ho]; split
        · simp [oneSz]
        · simp [oneSz, sz0]; exact catS_size lf
      have hcl := catS_size lf
      refine Loop.rule (fun q x hh => ∃ (i : Nat) (S : Nat → Prop), x = (catS lf ++ catS (ls.take i), (i : Int), ()) ∧ q = ls.length - i ∧ i ≤ ls.length ∧ IsBox hh b S (oneM (partM o1 (ls.take i))) ∧ (∀ c, S c → h.size ≤ c) ∧ Ext h hh) ?_
        ⟨0, S, by simp [catS, app_nil], rfl, by omega, B5, fi, x5⟩
      rintro K q _ hh ⟨i, S', rfl, rfl, hi, Bi, fi', xi⟩ hK
      refine PIf.intro (fun hq => ?_) (fun hq => ?_)
      · have hil : i < ls.length := by simpa [vs.len] using hq
        have hg := List.getElem?_eq_getElem hil
        generalize ls[i] = x at hg
        have hsn : ls.take (i + 1) = ls.take i ++ [x] := by rw [List.take_add_one, hg]; rfl
        have hs1 := sumS_take (i + 1) ls
        rw [hsn, sumS_snoc] at hs1
        have hc1 := catS_size (ls.take i)
        refine (vs.ext xi).idx hg fun a _ ca => LoadS.mk ca.str ?_
        refine bAppend_ok Bi (by rw [wt_one]; have := partM_sz o1 (ls.take i); omega) fun h3 S3 B3 m3 f3 => ⟨_, rfl, ?_, ?_⟩
        · dsimp only; rw [max_i64, size_app]; omega
        rw [append_one] at B3
        refine hK (ls.length - (i + 1)) _ _ (by omega) ⟨i + 1, S3, ?_, rfl, hil, ?_, fun c hc => (f3 c hc).elim (fi' c) fun h => by have := xi.size; omega, xi.then (m3.weak fun c _ hc => .inr (fi' c hc))⟩
        · rw [wrap_succ (by omega), hsn, catS_snoc, app_assoc]
        · rw [hsn, partM_snoc]; exact B3
      · have hil : i = ls.length := by simp [vs.len] at hq; omega
        subst hil
        rw [List.take_length] at Bi ⊢
        refine bCrash_ok Bi (vk.ext xi) fun b' h6 S6 _ N6 m6 f6 => ⟨_, rfl, ?_⟩
        refine bRead_ok N6 ⟨_, _, rfl, ?_⟩
        have x6 : Ext h h6 := xi.then (m6.weak fun c _ hc => .inr (fi' c hc))
        by_cases hnone : lf = [] ∧ ls = []
        · obtain ⟨rfl, rfl⟩ := hnone
          have e : crashB (oneM (partM o1 [])) ks = newB := by rw [← ho]; rfl
          rw [e, read_new]
          refine PIf.yes rfl (PIf.yes rfl ?_)
          have : sEq (catS []) bs0 = true := by rw [sEq_iff]; simp [catS]
          rw [this]; exact H h6 x6
        · have hoL : partM o1 ls = some (catS lf, catS ls) := by
            rw [← ho]
            split
            · rename_i e
              subst e
              rw [partM_none (fun e => hnone ⟨rfl, e⟩)]
              rfl
            · rw [partM_some, catS_foldl, nil_app]
          obtain ⟨k, hk, hkf⟩ := kept_form ks 0 ⟨nmF, catS lf, catS ls⟩
          simp only at hk hkf
          have ecr : crashB (oneM (partM o1 ls)) ks = if keptF ks 0 ⟨nmF, catS lf, catS ls⟩ = bs0 then newB else oneM (some (keptF ks 0 ⟨nmF, catS lf, catS ls⟩, bs0)) := by
            rw [hoL]
            simp only [crashB, oneM, crashF, oneF]
            split <;> rfl
          rw [ecr, hkf]
          split
          · rename_i he
            rw [read_new]
            refine PIf.yes rfl (PIf.yes rfl ?_)
            have hz : (catS lf).size = 0 := by
              have := congrArg ByteArray.size he
              rw [size_app, sz0] at this
              omega
            have : sEq (catS lf) bs0 = true := by
              rw [sEq_iff, decide_eq_true_eq, ByteArray.ext_iff]
              exact Array.eq_empty_of_size_eq_zero hz
            rw [this]; exact H h6 x6
          · rw [read_one, app_nil]
            refine PIf.no rfl ?_
            have hsz : (catS lf ++ (catS ls).extract 0 k).size = (catS lf).size + k := by rw [size_app, ByteArray.size_extract]; omega
            refine PIf.yes (by rw [decide_eq_true_eq, hsz]; dsimp only; omega) (PIf.yes (by rw [decide_eq_true_eq, hsz, size_app]; omega) ⟨by rw [hsz, size_app]; omega, ?_⟩)
            have : sEq ((catS lf ++ catS ls).extract 0 (((catS lf ++ (catS ls).extract 0 k).size : Int).toNat)) (catS lf ++ (catS ls).extract 0 k) = true := by
              rw [sEq_iff, decide_eq_true_eq, Int.toNat_natCast]
              exact ext_app _ _ _ hk
            rw [this]; exact H h6 x6)
    refine Join.mk fun K3 hK3 => ?_
    refine PIf.intro (fun hq => ?_) (fun hq => ?_)
    · have hne : lf ≠ [] := by
        have : lf.length > 0 := by simpa [vf.len] using hq
        intro e; rw [e] at this; simp at this
      rw [partM_none hne] at Bi
      refine bSync_ok Bi fun h4 B4 m4 => ⟨_, rfl, ?_⟩
      rw [sync_one, nil_app] at B4
      rw [sync_one]
      refine hK3 _ _ (PIf.yes rfl (key h4 ?_ (xi.then (m4.weak fun c _ hc => .inr (fi c hc)))))
      rw [if_neg hne]; exact B4
    · have hne : lf = [] := by
        have : ¬ lf.length > 0 := by simpa [vf.len] using hq
        exact List.eq_nil_of_length_eq_zero (by omega)
      subst hne
      exact hK3 _ _ (PIf.no rfl (key hh Bi xi))

/-! ### BoxOrder -/
theorem list_one (a s : ByteArray) : listB (oneM (some (a, s))) = ([nmF], 0) := rfl
theorem BoxOrder_ok {A : Amb} {h : Heap} {parts : Sl} {l : List ByteArray} {every : Int} {R : Value → Heap → Prop} (v : View StrE h parts l) (hsum : sumS l ≤ 4194304) (H : ∀ h', Ext h h' → R (.bool true) h') :
    HCalls A P f_wherrylaw03_BoxOrder #[.slice parts.p parts.len parts.cap, .int .i64 every] h R := by
  refine ok_wherrylaw03_BoxOrder ?_
  unfold F_wherrylaw03_BoxOrder
  refine awake03_ok fun h1 x1 => ⟨_, rfl, PIf.no rfl ?_⟩
  refine bNew_ok fun b h2 S2 B2 x2 f2 => ⟨_, rfl, ?_⟩
  have hll := sumS_len l
  refine Loop.rule (fun q x hh => ∃ (i : Nat) (S : Nat → Prop) (o : Option (ByteArray × ByteArray)), x = (catS (l.take i), (i : Int), ()) ∧ q = l.length - i ∧ i ≤ l.length ∧ IsBox hh b S (oneM o) ∧ (∀ d, (oneA d o).1 ++ (oneA d o).2 = catS (l.take i) ++ d) ∧ oneSz o ≤ sumS (l.take i) + 1 ∧ (∀ c, S c → h.size ≤ c) ∧ Ext h hh) ?_
    ⟨0, S2, none, rfl, rfl, by omega, B2, fun d => rfl, by simp [oneSz], fun c hc => by have := f2 c hc; have := x1.size; omega, x1.trans x2⟩
  rintro K q _ hh ⟨i, S, o, rfl, rfl, hi, Bi, ho, hoz, fi, xi⟩ hK
  refine PIf.intro (fun hq => ?_) (fun hq => ?_)
  · have hil : i < l.length := by simpa [v.len] using hq
    have hg := List.getElem?_eq_getElem hil
    generalize l[i] = x at hg
    have hsn : l.take (i + 1) = l.take i ++ [x] := by rw [List.take_add_one, hg]; rfl
    have hs1 := sumS_take (i + 1) l
    rw [hsn, sumS_snoc] at hs1
    have hc1 := catS_size (l.take i)
    refine (v.ext xi).idx hg fun a _ ca => LoadS.mk ca.str ?_
    refine bAppend_ok Bi (by rw [wt_one]; omega) fun h3 S3 B3 m3 f3 => ⟨_, rfl, ?_⟩
    rw [append_one] at B3 ⊢
    refine PIf.no rfl ⟨by dsimp only; rw [max_i64]; omega, ?_⟩
    have x3 : Ext h h3 := xi.then (m3.weak fun c _ hc => .inr (fi c hc))
    have fi3 : ∀ c, S3 c → h.size ≤ c := fun c hc => (f3 c hc).elim (fi c) fun h => by have := xi.size; omega
    have ha := ho x
    have haz : (oneA x o).1.size + (oneA x o).2.size = (catS (l.take i) ++ x).size := by rw [← ha, size_app]
    have hbz : (catS (l.take i) ++ x).size ≤ sumS (l.take (i + 1)) := by rw [← catS_snoc, ← hsn]; exact catS_size _
    refine Join.mk fun K1 hK1 => ?_
    -- behind the sync, or without one
    have key : ∀ a s h4, IsBox h4 b S3 (oneM (some (a, s))) → a ++ s = catS (l.take i) ++ x → Ext h h4 → K1 (false, ()) h4 := fun a s h4 B4 has x4 => hK1 _ _ (by
      refine PIf.no rfl ?_
      have hasz : a.size + s.size = (catS (l.take i) ++ x).size := by rw [← has, size_app]
      refine Loop.rule (fun q y hh => ∃ j : Nat, y = ((j : Int), ()) ∧ q = 2 - j ∧ j ≤ 2 ∧ IsBox hh b S3 (oneM (some (a, s))) ∧ Ext h hh) ?_ ⟨0, rfl, rfl, by omega, B4, x4⟩
      rintro K2 q _ hh' ⟨j, rfl, rfl, hj, Bj, xj⟩ hK2
      refine PIf.intro (fun hq => ?_) (fun hq => ?_)
      · have hj2 : j < 2 := by simp at hq; omega
        refine bList_ok Bj fun sl h5 o5 x5 f5 => ⟨sl, _, rfl, ?_⟩
        rw [list_one] at o5 ⊢
        refine bRead_ok (Bj.ext x5) ⟨_, _, rfl, ?_⟩
        rw [read_one]
        refine Join.mk fun K3 hK3 => ?_
        have hl5 : sl.len = 1 := o5.len
        refine PIf.no rfl (PIf.no rfl (PIf.no (by rw [hl5]; rfl) ?_))
        refine o5.view.idx (i := 0) (x := nmF) rfl fun a1 _ c1 => LoadS.mk c1.str ?_
        refine PIf.no (by rw [sEq_iff]; simp) (hK3 _ _ (PIf.no (by rw [sEq_iff, has]; simp) ?_))
        exact hK2 (2 - (j + 1)) _ _ (by omega) ⟨j + 1, by rw [wrap_succ (by omega)], rfl, by omega, Bj.ext x5, xj.trans x5⟩
      · refine hK (l.length - (i + 1)) _ _ (by omega) ⟨i + 1, S3, some (a, s), ?_, rfl, hil, Bj, fun d => ?_, ?_, fi3, xj⟩
        · rw [wrap_succ (by omega), hsn, catS_snoc]
        · rw [hsn, catS_snoc, ← has]; simp [oneA, app_assoc]
        · simp only [oneSz]; omega)
    have plain : K1 (false, ()) h3 := key (oneA x o).1 (oneA x o).2 h3 B3 ha x3
    refine PIf.intro (fun hq => ?_) (fun hq => ?_)
    · have he : every > 0 := by simpa using hq
      refine ⟨by omega, ?_⟩
      refine PIf.intro (fun hq => ?_) (fun hq => plain)
      refine bSync_ok B3 fun h4 B4 m4 => ⟨_, rfl, ?_⟩
      have es := sync_one (oneA x o).1 (oneA x o).2
      have es' : syncB (oneM (some (oneA x o))) nmF = _ := es
      rw [es'] at B4 ⊢
      exact key _ bs0 h4 B4 (by rw [app_nil, ha]) (x3.then (m4.weak fun c _ hc => .inr (fi3 c hc)))
    · exact plain
  · exact H hh xi

/-! ### BoxFuel -/
theorem one_append {m : Bx} {a s d : ByteArray} (hf : m.files = [⟨nmF, a, s⟩]) : appendB m nmF d = if m.down then (30, m) else if m.fuel = 0 then (30, offB m) else (0, { tickB m with files := [⟨nmF, a, s ++ d⟩] }) := by
  simp [appendB, nmF_ok, hf, haveF, findF, updF, addF]
theorem one_sync {m : Bx} {a s : ByteArray} (hf : m.files = [⟨nmF, a, s⟩]) : syncB m nmF = if m.down then (30, m) else if m.fuel = 0 then (30, offB m) else (0, { tickB m with files := [⟨nmF, a ++ s, bs0⟩] }) := by
  simp [syncB, hf, findF, updF, firmF]

/-- how a box of fuel F stands behind i changes -/
structure FuelAt (F : Int) (i : Nat) (n : Int) (m : Bx) : Prop where
  file : ∃ a s, m.files = [⟨nmF, a, s⟩] ∧ a.size + s.size ≤ i + 1
  free : F < 0 → n = i ∧ m.fuel = -1 ∧ m.down = false
  bound : 0 ≤ F → n = (if (i : Int) ≤ F then (i : Int) else F) ∧ m.fuel = F - n ∧ m.down = decide (F < (i : Int))

theorem FuelAt.step {F : Int} {i : Nat} {n : Int} {m m' : Bx} (Q : FuelAt F i n m) (hfile : ∃ a s, m'.files = [⟨nmF, a, s⟩] ∧ a.size + s.size ≤ i + 2) {e : Int}
    (hm : (m.down = true ∧ e = 30 ∧ m'.fuel = m.fuel ∧ m'.down = true) ∨ (m.down = false ∧ m.fuel = 0 ∧ e = 30 ∧ m'.fuel = 0 ∧ m'.down = true) ∨ (m.down = false ∧ m.fuel ≠ 0 ∧ e = 0 ∧ m'.fuel = burnF m.fuel ∧ m'.down = false)) :
    (e = 0 ∧ FuelAt F (i + 1) (n + 1) m') ∨ (e = 30 ∧ FuelAt F (i + 1) n m') := by
  obtain ⟨q1, q2, q3⟩ := Q
  by_cases hF : F < 0
  · obtain ⟨h1, h2, h3⟩ := q2 hF
    rcases hm with ⟨k1, _⟩ | ⟨_, k2, _⟩ | ⟨k1, k2, k3, k4, k5⟩
    · rw [h3] at k1; cases k1
    · omega
    · refine .inl ⟨k3, hfile, fun _ => ⟨by omega, ?_, k5⟩, fun h => by omega⟩
      rw [k4, h2]; decide
  · obtain ⟨h1, h2, h3⟩ := q3 (by omega)
    rcases hm with ⟨k1, k2, k3, k4⟩ | ⟨k1, k2, k3, k4, k5⟩ | ⟨k1, k2, k3, k4, k5⟩
    · have : F < (i : Int) := by rw [h3] at k1; simpa using k1
      refine .inr ⟨k2, hfile, fun h => by omega, fun _ => ⟨?_, by omega, ?_⟩⟩
      · rw [h1, if_neg (by omega), if_neg (by omega)]
      · rw [k4]; symm; rw [decide_eq_true_eq]; omega
    · have : ¬ F < (i : Int) := by rw [h3] at k1; simpa using k1
      rw [if_pos (by omega)] at h1
      refine .inr ⟨k3, hfile, fun h => by omega, fun _ => ⟨?_, by omega, ?_⟩⟩
      · rw [if_neg (by omega)]; omega
      · rw [k5]; symm; rw [decide_eq_true_eq]; omega
    · have : ¬ F < (i : Int) := by rw [h3] at k1; simpa using k1
      rw [if_pos (by omega)] at h1
      refine .inl ⟨k3, hfile, fun h => by omega, fun _ => ⟨?_, ?_, ?_⟩⟩
      · rw [if_pos (by omega)]; omega
      · rw [k4]; unfold burnF; rw [if_pos (by omega)]; omega
      · rw [k5]; symm; rw [decide_eq_false_iff_not]; omega

theorem BoxFuel_ok {A : Amb} {h : Heap} {fuel tries : Int} {R : Value → Heap → Prop} (hf : fuel ≤ 9223372036854775807) (H : ∀ h', Ext h h' → R (.bool true) h') :
    HCalls A P f_wherrylaw03_BoxFuel #[.int .i64 fuel, .int .i64 tries] h R := by
  refine ok_wherrylaw03_BoxFuel ?_
  unfold F_wherrylaw03_BoxFuel
  refine awake03_ok fun h1 x1 => ⟨_, rfl, PIf.no rfl ?_⟩
  refine PIf.intro (fun hq => H h1 x1) (fun hq => ?_)
  have ht : tries ≤ 500 := by simpa using hq
  refine bNew_ok fun b h2 S2 B2 x2 f2 => ⟨_, rfl, ?_⟩
  have sz1 : ByteArray.size ⟨#[120]⟩ = 1 := rfl
  refine bAppend_ok B2 (by show 0 + ByteArray.size ⟨#[120]⟩ + 1 ≤ _; rw [sz1]; omega) fun h3 S3 B3 m3 f3 => ⟨_, rfl, ?_⟩
  have e1 : appendB newB nmF ⟨#[120]⟩ = _ := append_one none ⟨#[120]⟩
  rw [e1] at B3
  refine bFuel_ok B3 hf fun h4 B4 m4 => ⟨rfl, ?_⟩
  have f2' : ∀ c, S2 c → h.size ≤ c := fun c hc => by have := f2 c hc; have := x1.size; omega
  have x12 : Ext h h2 := x1.trans x2
  have f3' : ∀ c, S3 c → h.size ≤ c := fun c hc => (f3 c hc).elim (f2' c) fun h => by have := x12.size; omega
  have x4 : Ext h h4 := (x12.then (m3.weak fun c _ hc => .inr (f2' c hc))).then (m4.weak fun c _ hc => .inr (f3' c hc))
  have Q0 : FuelAt fuel 0 0 (fuelB (oneM (some (oneA ⟨#[120]⟩ none))) fuel) := by
    refine ⟨⟨bs0, _, rfl, by show ByteArray.size ⟨#[]⟩ + ByteArray.size ⟨#[120]⟩ ≤ _; rw [sz0, sz1]; omega⟩, fun h => ⟨rfl, ?_, rfl⟩, fun h => ⟨?_, ?_, ?_⟩⟩
    · show (if (-1 : Int) > fuel then -1 else fuel) = -1; split <;> omega
    · simp [h]
    · show (if (-1 : Int) > fuel then -1 else fuel) = _; split <;> omega
    · show false = _; symm; simpa using h
  refine Loop.rule (fun q x hh => ∃ (i : Nat) (n : Int) (S : Nat → Prop) (m : Bx), x = (n, (i : Int), ()) ∧ q = 500 - i ∧ (i : Int) ≤ (if (0 : Int) > tries then 0 else tries) ∧ 0 ≤ n ∧ n ≤ i ∧ IsBox hh b S m ∧ FuelAt fuel i n m ∧ (∀ c, S c → h.size ≤ c) ∧ Ext h hh) ?_
    ⟨0, 0, S3, _, rfl, rfl, by split <;> omega, by omega, by omega, B4, Q0, f3', x4⟩
  rintro K q _ hh ⟨i, n, S, m, rfl, rfl, hi, hn0, hn, Bi, Q, fi, xi⟩ hK
  refine PIf.intro (fun hq => ?_) (fun hq => ?_)
  · have hit : (i : Int) < tries := by simpa using hq
    refine Join.mk fun K1 hK1 => ?_
    refine Join.mk fun K2 hK2 => ?_
    have next : ∀ n' S' m' h', FuelAt fuel (i + 1) n' m' → 0 ≤ n' → n' ≤ (i + 1 : Nat) → IsBox h' b S' m' → (∀ c, S' c → h.size ≤ c) → Ext h h' → K1 (n', ()) h' := fun n' S' m' h' Q' a1 a2 B' f' x' =>
      hK1 _ _ (hK (500 - (i + 1)) _ _ (by omega) ⟨i + 1, n', S', m', by rw [wrap_succ (by omega)], rfl, by rw [if_neg (by omega)]; omega, a1, a2, B', Q', f', x'⟩)
    have key : ∀ e S' m' h', (e = 0 ∧ FuelAt fuel (i + 1) (n + 1) m') ∨ (e = 30 ∧ FuelAt fuel (i + 1) n m') → IsBox h' b S' m' → (∀ c, S' c → h.size ≤ c) → Ext h h' → K2 (e, ()) h' := fun e S' m' h' he B' f' x' => hK2 _ _ (by
      rcases he with ⟨rfl, Q'⟩ | ⟨rfl, Q'⟩
      · refine PIf.yes rfl ?_
        rw [wrap_i64 (by omega) (by omega)]
        exact next _ S' m' h' Q' (by omega) (by omega) B' f' x'
      · exact PIf.no rfl (PIf.no rfl (next _ S' m' h' Q' hn0 (by omega) B' f' x')))
    obtain ⟨a, s, hfile, hsz⟩ := Q.file
    have tf := tick_fuel m
    have hwt : wtF m.files = a.size + s.size + 1 := by rw [hfile]; simp [wtF]
    have sz1' : ByteArray.size ⟨#[121]⟩ = 1 := rfl
    refine PIf.intro (fun hq => ?_) (fun hq => ?_)
    · refine bAppend_ok Bi (by rw [hwt, sz1']; omega) fun h5 S5 B5 m5 f5 => ⟨_, rfl, ?_⟩
      refine key _ S5 _ h5 (Q.step ?_ ?_) B5 (fun c hc => (f5 c hc).elim (fi c) fun h => by have := xi.size; omega) (xi.then (m5.weak fun c _ hc => .inr (fi c hc)))
      · rw [one_append hfile]
        split
        · exact ⟨a, s, hfile, by omega⟩
        · split
          · exact ⟨a, s, hfile, by omega⟩
          · exact ⟨a, _, rfl, by rw [size_app, sz1']; omega⟩
      · rw [one_append hfile]
        split
        · rename_i hd; exact .inl ⟨hd, rfl, rfl, hd⟩
        · rename_i hd
          split
          · rename_i hz; exact .inr (.inl ⟨by simpa using hd, hz, rfl, hz, rfl⟩)
          · rename_i hz; exact .inr (.inr ⟨by simpa using hd, hz, rfl, tf.1, by show (tickB m).down = _; rw [tf.2.1]; simpa using hd⟩)
    · refine bSync_ok Bi fun h5 B5 m5 => ⟨_, rfl, ?_⟩
      refine key _ S _ h5 (Q.step ?_ ?_) B5 fi (xi.then (m5.weak fun c _ hc => .inr (fi c hc)))
      · rw [one_sync hfile]
        split
        · exact ⟨a, s, hfile, by omega⟩
        · split
          · exact ⟨a, s, hfile, by omega⟩
          · exact ⟨_, _, rfl, by rw [size_app, sz0]; omega⟩
      · rw [one_sync hfile]
        split
        · rename_i hd; exact .inl ⟨hd, rfl, rfl, hd⟩
        · rename_i hd
          split
          · rename_i hz; exact .inr (.inl ⟨by simpa using hd, hz, rfl, hz, rfl⟩)
          · rename_i hz; exact .inr (.inr ⟨by simpa using hd, hz, rfl, tf.1, by show (tickB m).down = _; rw [tf.2.1]; simpa using hd⟩)
  · have hit : ¬ (i : Int) < tries := by simpa using hq
    have hmax : (if (0 : Int) > tries then 0 else tries) = (i : Int) := by split <;> (split at hi <;> omega)
    rw [hmax]
    refine Join.mk fun K3 hK3 => ?_
    have key : ∀ want : Int, n = want → (want ≠ (i : Int) → m.down = true) → K3 (want, ()) hh := fun want hw hd => hK3 _ _ (by
      refine bFuel_ok Bi (by omega) fun h5 B5 m5 => ⟨rfl, ?_⟩
      have x5 : Ext h h5 := xi.then (m5.weak fun c _ hc => .inr (fi c hc))
      refine PIf.yes (by simpa using hw) ?_
      refine PIf.intro (fun hq => H h5 x5) (fun hq => ?_)
      have hdn := hd (by simpa using hq)
      obtain ⟨a, s, hfile, hsz⟩ := Q.file
      have hwt : wtF (fuelB m 9).files = a.size + s.size + 1 := by show wtF m.files = _; rw [hfile]; simp [wtF]
      have sz1' : ByteArray.size ⟨#[122]⟩ = 1 := rfl
      have hi5 : (i : Int) ≤ 500 := by split at hi <;> omega
      refine bAppend_ok B5 (by rw [hwt, sz1']; omega) fun h6 S6 B6 m6 f6 => ⟨_, rfl, ?_⟩
      have : appendB (fuelB m 9) nmF ⟨#[122]⟩ = (30, fuelB m 9) := by
        unfold appendB
        rw [if_pos (by show m.down = true; exact hdn)]
      rw [this]
      exact H h6 (x5.then (m6.weak fun c _ hc => .inr (fi c hc))))
    refine PIf.intro (fun hq => ?_) (fun hq => ?_)
    · have hf0 : 0 ≤ fuel := by simpa using hq
      obtain ⟨q1, q2, q3⟩ := Q.bound hf0
      refine key _ ?_ ?_
      · rw [q1]; split <;> split <;> omega
      · intro hne
        rw [q3, decide_eq_true_eq]
        split at hne <;> omega
    · have hf0 : fuel < 0 := by simpa using hq
      exact key _ (Q.free hf0).1 (fun h => absurd rfl h)
end Go.Lf.G
