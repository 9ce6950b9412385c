/-
  Contracts: several sequences as one.
-/
import Derived.Test.YtdaodhcpiafgfaaLfM3
set_option maxRecDepth 100000
namespace Go.Lf.G
open Go

/-! ### the order of keys -/
theorem bl_irrefl : ∀ (a : List UInt8), Op.bytesLess a a = false
  | [] => rfl
  | a :: x => by simp [Op.bytesLess, bl_irrefl x]
theorem bl_tri : ∀ (a b : List UInt8), Op.bytesLess a b = false → Op.bytesLess b a = false → a = b
  | [], [], _, _ => rfl
  | [], _ :: _, h, _ => by simp [Op.bytesLess] at h
  | _ :: _, [], _, h => by simp [Op.bytesLess] at h
  | a :: x, b :: y, h1, h2 => by
    simp only [Op.bytesLess, Bool.or_eq_false_iff, Bool.and_eq_false_iff, decide_eq_false_iff_not, beq_eq_false_iff_ne] at h1 h2
    have hab : a = b := by
      have h3 := h1.1; have h4 := h2.1
      exact UInt8.le_antisymm (UInt8.not_lt.1 h4) (UInt8.not_lt.1 h3)
    subst hab
    rw [bl_tri x y (h1.2.resolve_left (by simp)) (h2.2.resolve_left (by simp))]
theorem bl_trans : ∀ (a b c : List UInt8), Op.bytesLess a b = true → Op.bytesLess b c = true → Op.bytesLess a c = true
  | _, [], _, h, _ => by simp [Op.bytesLess] at h
  | _, _ :: _, [], _, h => by simp [Op.bytesLess] at h
  | [], _ :: _, _ :: _, _, _ => by simp [Op.bytesLess]
  | a :: x, b :: y, c :: z, h1, h2 => by
    simp only [Op.bytesLess, Bool.or_eq_true, Bool.and_eq_true, decide_eq_true_eq, beq_iff_eq] at h1 h2 ⊢
    rcases h1 with h1 | ⟨rfl, h1⟩
    · rcases h2 with h2 | ⟨rfl, h2⟩
      · exact .inl (UInt8.lt_trans h1 h2)
      · exact .inl h1
    · rcases h2 with h2 | ⟨rfl, h2⟩
      · exact .inl h2
      · exact .inr ⟨rfl, bl_trans x y z h1 h2⟩

theorem sLt_irrefl (a : ByteArray) : sLt a a = false := bl_irrefl _
theorem sLt_trans {a b c : ByteArray} (h1 : sLt a b = true) (h2 : sLt b c = true) : sLt a c = true := bl_trans _ _ _ h1 h2
theorem sLt_tri {a b : ByteArray} (h1 : sLt a b = false) (h2 : sLt b a = false) : a = b := by
  have := bl_tri _ _ h1 h2
  have h3 : sEq a b = true := by simp [sEq, this]
  rw [sEq_iff] at h3
  simpa using h3
theorem sLt_asymm {a b : ByteArray} (h1 : sLt a b = true) : sLt b a = false := by
  cases h : sLt b a
  · rfl
  · have := sLt_trans h1 h; rw [sLt_irrefl] at this; cases this
/-- a < b ≤ c -/
theorem sLt_le {a b c : ByteArray} (h1 : sLt a b = true) (h2 : sLt c b = false) : sLt a c = true := by
  cases h : sLt b c
  · rw [sLt_tri h2 h]; exact h1
  · exact sLt_trans h1 h
/-- a ≤ b ≤ c -/
theorem sLe_trans {a b c : ByteArray} (h1 : sLt b a = false) (h2 : sLt c b = false) : sLt c a = false := by
  cases h : sLt c a
  · rfl
  · have := sLt_le h h1; rw [this] at h2; cases h2

/-! ### merging -/
def upto (p q : Pr) : Bool := sLt q.key p.key || sEq q.key p.key
def dropW (p : Pr) (l : List Pr) : List Pr := l.dropWhile (upto p)

inductive Merges : List (List Pr) → List Pr → Prop
  | done {ls : List (List Pr)} (h : ∀ l, l ∈ ls → l = []) : Merges ls []
  | step {ls : List (List Pr)} {k : Nat} {p : Pr} {t out : List Pr} (hk : ls[k]? = some (p :: t))
      (hmin : ∀ j q u, ls[j]? = some (q :: u) → sLt q.key p.key = false ∧ (j < k → sLt p.key q.key = true)) (hm : Merges (ls.map (dropW p)) out) : Merges ls (p :: out)

theorem Merges.nil_inv {ls : List (List Pr)} {out : List Pr} (m : Merges ls out) (h : ∀ l, l ∈ ls → l = []) : out = [] := by
  cases m with
  | done _ => rfl
  | step hk hmin hm => have := h _ (List.mem_of_getElem? hk); cases this

theorem Merges.step_inv {ls : List (List Pr)} {out : List Pr} (m : Merges ls out) {k : Nat} {p : Pr} {t : List Pr} (hk : ls[k]? = some (p :: t))
    (hmin : ∀ j q u, ls[j]? = some (q :: u) → sLt q.key p.key = false ∧ (j < k → sLt p.key q.key = true)) : ∃ out', out = p :: out' ∧ Merges (ls.map (dropW p)) out' := by
  cases m with
  | done h => have := h _ (List.mem_of_getElem? hk); cases this
  | @step _ k2 p2 t2 out2 hk2 hmin2 hm2 =>
    have e : k = k2 := by
      rcases Nat.lt_trichotomy k k2 with h | h | h
      · have h1 := (hmin2 _ _ _ hk).2 h
        rw [(hmin _ _ _ hk2).1] at h1; cases h1
      · exact h
      · have h1 := (hmin _ _ _ hk2).2 h
        rw [(hmin2 _ _ _ hk).1] at h1; cases h1
    subst e
    rw [hk] at hk2
    cases hk2
    exact ⟨out2, rfl, hm2⟩

end Go.Lf.G
namespace Go.Lf
open G
theorem Own.lt {α : Type} {E : Enc α} {T : TypeId} {h : Heap} {s : Sl} {l : List α} (o : Own E T h s l) {c : Nat} (hc : s.blk = some c) : c < h.size := by
  rcases o.row with ⟨rfl, _⟩ | ⟨g, cur, hp, hg, _⟩
  · simp [Sl.blk] at hc
  · simp [Sl.blk, hp] at hc; subst hc; exact blk_lt hg
end Go.Lf
namespace Go.Lf.G
open Go

theorem set_take {α : Type} : ∀ (cs : List α) (n i : Nat) (v : α), (cs.set i v).take n = (cs.take n).set i v
  | [], n, i, v => by simp
  | c :: cs, 0, i, v => by simp
  | c :: cs, n + 1, 0, v => by simp
  | c :: cs, n + 1, i + 1, v => by simp [set_take cs n i v]

end Go.Lf.G
namespace Go.Lf
open G
/-- a store at an element of an owned slice of slices -/
theorem Own.store {T : TypeId} {h : Heap} {s : Sl} {l : List Sl} (o : Own SlE T h s l) {i : Nat} (hi : i < l.length) {x : Sl} {K : Heap → Prop} {a : Addr} (ha : s.p = some a)
    (H : ∀ h', Own SlE T h' s (l.set i x) → Mod (fun b => s.blk = some b) h h' → h'.size = h.size → K h') : Store h (a.add (i * 1)) (.slice x.p x.len x.cap) K := by
  rcases o.row with ⟨rfl, _⟩ | ⟨g, cur, hp, hg, h1, h2, h3, h4⟩
  · simp at ha
  · rw [hp] at ha; cases ha
    rw [add_mk, Nat.zero_add, Nat.mul_one]
    have hw : SlE.w = 1 := rfl
    rw [hw, Nat.mul_one] at h3 h4
    have hlen := o.len
    refine Store.mk hg (by omega) fun h' hb m hsz => H h' ⟨by simpa using o.len, .inr ⟨g, _, hp, hb, h1, h2, by simp [h3, hw], ?_⟩⟩ (m.weak fun b _ hb => by simp [Sl.blk, hp, hb]) hsz
    rw [hw, Nat.mul_one, Array.toList_setIfInBounds, set_take, h4]
    have e : ∀ l : List Sl, l.flatMap SlE.enc = l.map (fun s => Value.slice s.p s.len s.cap) := fun l => by
      induction l with
      | nil => rfl
      | cons y l ih => rw [List.flatMap_cons, ih]; rfl
    rw [e, e, List.map_set]
end Go.Lf
namespace Go.Lf.G
open Go

/-- slices that lie in new blocks -/
structure NRows (lo : Nat) (h : Heap) (O : Nat → Prop) (t : Sl) (sls : List Sl) (ls : List (List Pr)) : Prop where
  len : sls.length = ls.length
  row : ∀ (j : Nat) (sl : Sl) (l : List Pr), sls[j]? = some sl → ls[j]? = some l → View PairE h sl l ∧ l.length ≤ 1099511627776 ∧ ∀ c, sl.blk = some c → lo ≤ c ∧ c < h.size ∧ t.blk ≠ some c ∧ ¬ O c

theorem NRows.mod {lo : Nat} {h h' : Heap} {O O' : Nat → Prop} {t t' : Sl} {sls : List Sl} {ls : List (List Pr)} {S : Nat → Prop} (r : NRows lo h O t sls ls) (m : Mod S h h') (hS : ∀ c, lo ≤ c → c < h.size → t.blk ≠ some c → ¬ O c → ¬ S c)
    (ht : ∀ c, c < h.size → t'.blk = some c → t.blk = some c) (hO : ∀ c, c < h.size → O' c → O c) : NRows lo h' O' t' sls ls :=
  ⟨r.len, fun j sl l h1 h2 => by
    obtain ⟨v, hl, hc⟩ := r.row j sl l h1 h2
    refine ⟨v.mod m fun c hb => hS c (hc c hb).1 (hc c hb).2.1 (hc c hb).2.2.1 (hc c hb).2.2.2, hl, fun c hb => ?_⟩
    obtain ⟨h1, h2, h3, h4⟩ := hc c hb
    have := m.size
    exact ⟨h1, by omega, fun e => h3 (ht c h2 e), fun e => h4 (hO c h2 e)⟩⟩

end Go.Lf.G
namespace Go.Lf
open G
theorem View.val {h : Heap} {s : Sl} {vs : List OneV} (v : View ValE h s vs) {i : Nat} {x : OneV} (hi : vs[i]? = some x) : ∃ a, s.p = some a ∧ hget h (a.add (i * 1)) = some x.v := by
  obtain ⟨a, ha, hc⟩ := v.cells i x hi
  exact ⟨a, ha, hc.val⟩
end Go.Lf
namespace Go.Lf.G
open Go

theorem All1_ok {A : Amb} {h0 : Heap} {b : Nat} {T : TypeId} {fr : Nat × Nat} {s : Sl} {S : Nat → Prop} {vs : List OneV} {os : List (Option (List Pr))} {out : List Pr} (hb : h0[b]? = some (.cells #[.slice s.p s.len s.cap] T fr)) (v : View ValE h0 s vs)
    (hl : vs.length ≤ 1099511627776) (hos : os.length = vs.length)
    (it : ∀ (i : Nat) (v : OneV), vs[i]? = some v → (v.v = .nilFunc ∧ os[i]? = some none) ∨ ∃ l, os[i]? = some (some l) ∧ IterV A P v.v S h0 l ∧ l.length ≤ 1099511627776) (hm : Merges (os.filterMap id) out) (hSlt : ∀ b, S b → b < h0.size) :
    IterV A P (.func (.func f_merge_All_1) #[] #[.pointer (some ⟨b, 0, none⟩)]) (fun c => S c ∨ (c < h0.size ∧ (c = b ∨ s.blk = some c))) h0 out := by
  have hbl := blk_lt hb
  refine ⟨?_, _, _, rfl, fun yv => by kernel_rfl, fun h hS yv J O hy hd hB hY hJ => ?_⟩
  · rintro c (hc | hc)
    · exact hSlt c hc
    · exact hc.1
  rw [cat1]
  refine ok_merge_All_1 ?_
  unfold F_merge_All_1
  have hOlt := hB.wf _ _ _ _ hJ
  have hbh : h[b]? = some (.cells #[.slice s.p s.len s.cap] T fr) := (hS b (.inr ⟨hbl, .inl rfl⟩)).trans hb
  have hvh : ∀ i x, vs[i]? = some x → ∃ a, s.p = some a ∧ hget h (a.add (i * 1)) = some x.v := fun i x hi => by
    obtain ⟨a, ha, hg⟩ := v.val hi
    refine ⟨a, ha, ?_⟩
    have hlt := hget_lt hg
    rw [add_block] at hlt
    have e := hS _ (.inr ⟨hlt, .inr (by simp [Sl.blk, ha])⟩)
    exact (hget_blk (by rw [add_block]; exact e)).trans hg
  have hSh : ∀ c, S c → c < h.size := fun c hc => by
    have := hS c (.inl hc)
    rw [Array.getElem?_eq_getElem (hSlt c hc)] at this
    exact blk_lt this
  refine LoadL.mk (hget_lit hbh rfl) ?_
  refine Loop.rule (fun m x hh => ∃ (i : Nat) (t : Sl) (sls : List Sl), x = (t, (i : Int), ()) ∧ m = vs.length - i ∧ i ≤ vs.length ∧ Ext h hh ∧ Own SlE t_sl_api_Pair hh t sls ∧ (∀ c, t.blk = some c → h.size ≤ c) ∧ NRows h.size hh O t sls ((os.take i).filterMap id) ∧ sls.length ≤ i) ?_
    ⟨0, ⟨none, 0, 0⟩, [], rfl, rfl, by omega, Mod.refl, Own.nil, fun c hc => by simp [Sl.blk] at hc, ⟨by simp, fun j sl l h => by simp at h⟩, by simp⟩
  rintro K m _ hh ⟨i, t, sls, rfl, rfl, hi, hx, o, hbt, hr, hsl⟩ hK
  refine PIf.intro (fun hq => ?_) (fun hq => ?_)
  · have hi' : i < vs.length := by simp [v.len] at hq; omega
    have hgi := List.getElem?_eq_getElem hi'
    refine Join.mk fun K1 hK1 => ?_
    obtain ⟨a, ha, hg⟩ := hvh i _ hgi
    refine Idx.mk ha (by rw [v.len]; exact hi') ?_
    refine LoadV.mk (hx.hget hg) ?_
    rcases it i _ hgi with ⟨hv, ho⟩ | ⟨l, ho, hit, hlb⟩
    · refine ⟨by rw [hv]; trivial, PIf.no (by rw [hv]; rfl) ?_⟩
      refine hK1 _ _ (hK (vs.length - (i + 1)) _ _ (by omega) ⟨i + 1, t, sls, by rw [wrap_succ (by omega)], rfl, by omega, hx, o, hbt, ?_, by omega⟩)
      have : (os.take (i + 1)).filterMap id = (os.take i).filterMap id := by rw [List.take_add_one, ho]; simp
      rw [this]; exact hr
    · refine ⟨hit.one.2.1, PIf.yes (by rw [hit.one.2.2]; rfl) ?_⟩
      refine Collect_ok hit (fun c hc => (hx.get c (hSh c hc) (by simp)).trans (hS c (.inl hc))) hlb fun s3 h3 o3 hb3 x3 => ⟨s3, rfl, ?_⟩
      refine New.append1 (E := SlE) (x := s3) rfl app_list (o.ext x3) (by omega) (by simp [maxLen]; omega) fun s4 h4 o4 m4 bl4 _ => ?_
      have x04 : Ext h h4 := (hx.trans x3).then (m4.weak fun c _ hc => .inr (hbt c hc))
      refine hK1 _ _ (hK (vs.length - (i + 1)) _ _ (by omega) ⟨i + 1, s4, _, by rw [wrap_succ (by omega)], rfl, by omega, x04, o4, ?_, ?_, ?_⟩)
      · intro c hc
        rcases bl4 c hc with h1 | h1
        · exact hbt c h1
        · have := hx.size; have := x3.size; omega
      · have e : (os.take (i + 1)).filterMap id = (os.take i).filterMap id ++ [l] := by rw [List.take_add_one, ho]; simp
        rw [e]
        have r4 := (hr.mod x3 (fun c _ _ _ _ h => h) (fun c _ h => h) (fun c _ h => h)).mod (t' := s4) m4 (fun c _ _ hn _ => hn) (fun c hc h1 => (bl4 c h1).elim id fun h2 => by omega) (fun c _ h => h)
        refine ⟨by simp [r4.len], fun j sl l' h1 h2 => ?_⟩
        rcases Nat.lt_trichotomy j sls.length with hj | hj | hj
        · rw [List.getElem?_append_left hj] at h1
          rw [List.getElem?_append_left (by rw [← r4.len]; exact hj)] at h2
          exact r4.row j sl l' h1 h2
        · subst hj
          rw [List.getElem?_concat_length] at h1
          rw [r4.len, List.getElem?_concat_length] at h2
          cases h1; cases h2
          have hne : t.blk ≠ s3.blk ∨ s3.blk = none := by
            cases hs : s3.blk with
            | none => exact .inr rfl
            | some c =>
              refine .inl fun e => ?_
              have := o.lt e; have := hb3 c hs; omega
          refine ⟨(o3.view).mod m4 fun c hc hn => ?_, hlb, fun c hc => ⟨?_, ?_, ?_, ?_⟩⟩
          · have := o.lt hn; have := hb3 c hc; omega
          · have := hb3 c hc; have := hx.size; omega
          · have := o3.lt hc; have := m4.size; omega
          · intro h1
            have := o3.lt hc
            rcases bl4 c h1 with h2 | h2
            · have := o.lt h2; have := hb3 c hc; omega
            · omega
          · intro h1; have := hOlt c h1; have := hb3 c hc; have := hx.size; omega
        · rw [List.getElem?_eq_none (by simp; omega)] at h1; cases h1
      · simp; omega
  · have hi' : i = vs.length := by simp [v.len] at hq; omega
    rw [hi', ← hos, List.take_length] at hr
    have hJh := hB.stable _ _ _ _ _ hJ (hx.weak (S' := fun b => ¬ O b ∧ h.size ≤ b) fun _ _ h => h.elim)
    refine Loop.rule (fun m _ hh => ∃ (i : Nat) (O1 : Nat → Prop) (sls : List Sl) (cur : List (List Pr)) (out' : List Pr), Merges cur out' ∧ m = out'.length ∧ (∀ k, out[i + k]? = out'[k]?) ∧ i + out'.length = out.length ∧ Mod O h hh ∧ (∀ b, O1 b → O b ∨ h.size ≤ b) ∧ J i true O1 hh ∧
        Own SlE t_sl_api_Pair hh t sls ∧ (∀ c, t.blk = some c → ¬ O1 c) ∧ NRows h.size hh O1 t sls cur ∧ sls.length ≤ 1099511627776) ?_
      ⟨0, O, sls, _, out, hm, rfl, fun k => by rw [Nat.zero_add], by omega, hx.mod, fun b hb => .inl hb, hJh, o, fun c hc hn => by have := hOlt c hn; have := hbt c hc; omega, hr, by omega⟩
    clear hK hr hx o hsl hJh
    rintro K2 m _ hh ⟨i, O1, sls, cur, out', hmg, rfl, hout, hlen, hmd, hsub, hj, o, hnt, hr, hsl⟩ hK
    have hO1lt := hB.wf _ _ _ _ hj
    -- the best one
    refine Loop.rule (fun m x h7 => ∃ (n : Nat) (bi : Int), x = (bi, (n : Int), ()) ∧ h7 = hh ∧ m = cur.length - n ∧ n ≤ cur.length ∧ ((bi = -1 ∧ ∀ j l, j < n → cur[j]? = some l → l = []) ∨
      ∃ k p u, bi = (k : Nat) ∧ k < n ∧ cur[k]? = some (p :: u) ∧ ∀ j q w, j < n → cur[j]? = some (q :: w) → sLt q.key p.key = false ∧ (j < k → sLt p.key q.key = true))) ?_
      ⟨0, -1, rfl, rfl, rfl, by omega, .inl ⟨rfl, fun j l h => by omega⟩⟩
    rintro K3 m _ h7 ⟨n, bi, rfl, hh7, rfl, hn, hbest⟩ hK3
    subst hh7
    have hlc := hr.len
    refine PIf.intro (fun hq => ?_) (fun hq => ?_)
    · have hn' : n < cur.length := by simp [o.len] at hq; omega
      have hgn := List.getElem?_eq_getElem hn'
      have hgs := List.getElem?_eq_getElem (l := sls) (i := n) (by omega)
      obtain ⟨vn, hvb, _⟩ := hr.row n _ _ hgs hgn
      refine Join.mk fun K4 hK4 => ?_
      refine o.view.idx hgs fun a2 _ c2 => ?_
      refine LoadL.mk c2.sl ?_
      refine Join.mk fun K5 hK5 => ?_
      have hkeep : ((bi = -1 ∧ ∀ j l, j < n + 1 → cur[j]? = some l → l = []) ∨
          ∃ k p u, bi = (k : Nat) ∧ k < n + 1 ∧ cur[k]? = some (p :: u) ∧ ∀ j q w, j < n + 1 → cur[j]? = some (q :: w) → sLt q.key p.key = false ∧ (j < k → sLt p.key q.key = true)) → K5 (false, ()) h7 := fun e =>
        hK5 _ _ (PIf.no rfl (hK4 _ _ (hK3 (cur.length - (n + 1)) _ _ (by omega) ⟨n + 1, bi, by rw [wrap_succ (by omega)], rfl, rfl, by omega, e⟩)))
      have hnew : (∃ k p u, (n : Int) = (k : Nat) ∧ k < n + 1 ∧ cur[k]? = some (p :: u) ∧ ∀ j q w, j < n + 1 → cur[j]? = some (q :: w) → sLt q.key p.key = false ∧ (j < k → sLt p.key q.key = true)) → K5 (true, ()) h7 := fun e =>
        hK5 _ _ (PIf.yes rfl (hK4 _ _ (hK3 (cur.length - (n + 1)) _ _ (by omega) ⟨n + 1, n, by rw [wrap_succ (by omega)], rfl, rfl, by omega, .inr e⟩)))
      refine PIf.intro (fun hq => ?_) (fun hq => ?_)
      · cases hcn : cur[n] with
        | nil => rw [hcn] at vn; have := vn.len; simp [this] at hq
        | cons q w =>
          rw [hcn] at vn hgn
          rcases hbest with ⟨rfl, he⟩ | ⟨k, p, u, rfl, hk, hgk, hmin⟩
          · refine PIf.yes (by simp) (hnew ⟨n, q, w, rfl, by omega, hgn, fun j q' w' hj hgj => ?_⟩)
            rcases Nat.lt_or_ge j n with h1 | h1
            · have := he j _ h1 hgj; cases this
            · have : j = n := by omega
              subst this
              rw [hgn] at hgj; cases hgj
              exact ⟨sLt_irrefl _, fun h => by omega⟩
          · refine PIf.no (by simp) ?_
            refine vn.idx (i := 0) (x := q) rfl fun a3 _ c3 => ?_
            refine LoadS.mk c3.pair.1 ?_
            have hgsk := List.getElem?_eq_getElem (l := sls) (i := k) (by omega)
            obtain ⟨vk, _, _⟩ := hr.row k _ _ hgsk hgk
            refine o.view.idx hgsk fun a4 _ c4 => ?_
            refine LoadL.mk c4.sl ?_
            refine vk.idx (i := 0) (x := p) rfl fun a5 _ c5 => ?_
            refine LoadS.mk c5.pair.1 ?_
            cases hs : sLt q.key p.key
            · refine hkeep (.inr ⟨k, p, u, rfl, by omega, hgk, fun j q' w' hj hgj => ?_⟩)
              rcases Nat.lt_or_ge j n with h1 | h1
              · exact hmin j q' w' h1 hgj
              · have : j = n := by omega
                subst this
                rw [hgn] at hgj; cases hgj
                exact ⟨hs, fun h => by omega⟩
            · refine hnew ⟨n, q, w, rfl, by omega, hgn, fun j q' w' hj hgj => ?_⟩
              rcases Nat.lt_or_ge j n with h1 | h1
              · have h2 := (hmin j q' w' h1 hgj).1
                have h3 := sLt_le hs h2
                exact ⟨sLt_asymm h3, fun _ => h3⟩
              · have : j = n := by omega
                subst this
                rw [hgn] at hgj; cases hgj
                exact ⟨sLt_irrefl _, fun h => by omega⟩
      · have hcn : cur[n] = [] := by
          have := vn.len
          cases hcn : cur[n] with
          | nil => rfl
          | cons q w => rw [hcn] at this; simp [this] at hq
        rw [hcn] at hgn
        refine hkeep ?_
        rcases hbest with ⟨rfl, he⟩ | ⟨k, p, u, rfl, hk, hgk, hmin⟩
        · refine .inl ⟨rfl, fun j l hj hgj => ?_⟩
          rcases Nat.lt_or_ge j n with h1 | h1
          · exact he j l h1 hgj
          · have : j = n := by omega
            subst this
            rw [hgn] at hgj; cases hgj; rfl
        · refine .inr ⟨k, p, u, rfl, by omega, hgk, fun j q' w' hj hgj => ?_⟩
          rcases Nat.lt_or_ge j n with h1 | h1
          · exact hmin j q' w' h1 hgj
          · have : j = n := by omega
            subst this
            rw [hgn] at hgj; cases hgj
    · have hn' : n = cur.length := by simp [o.len] at hq; omega
      subst hn'
      clear hK3
      rcases hbest with ⟨rfl, he⟩ | ⟨k, p, u, rfl, hk, hgk, hmin⟩
      · refine PIf.yes (by simp) ?_
        have : out' = [] := hmg.nil_inv fun l hl => by
          obtain ⟨j, hj, e⟩ := List.getElem_of_mem hl
          exact he j l hj (by rw [List.getElem?_eq_getElem hj, e])
        subst this
        refine ⟨rfl, i, true, O1, hmd, hsub, hj, fun _ => by have := hlen; simp only [List.length_nil] at this; omega, by have := hlen; simp only [List.length_nil] at this; omega⟩
      · refine PIf.no (by simp) ?_
        have hmin' : ∀ j q w, cur[j]? = some (q :: w) → sLt q.key p.key = false ∧ (j < k → sLt p.key q.key = true) := fun j q w hg => hmin j q w (List.getElem?_eq_some_iff.1 hg).1 hg
        obtain ⟨out2, rfl, hmg2⟩ := hmg.step_inv hgk hmin'
        have hgsk := List.getElem?_eq_getElem (l := sls) (i := k) (by omega)
        obtain ⟨vk, _, _⟩ := hr.row k _ _ hgsk hgk
        refine o.view.idx hgsk fun a4 _ c4 => ?_
        refine LoadL.mk c4.sl ?_
        refine vk.idx (i := 0) (x := p) rfl fun a5 _ c5 => ?_
        refine LoadS.mk c5.pair.1 (LoadS.mk c5.pair.2.1 (LoadB.mk c5.pair.2.2 ?_))
        refine New.pair fun b1 h13 eb hb1 x13 hs13 => ?_
        have o13 := o.ext x13
        have r13 : NRows h.size h13 O1 t sls cur := hr.mod x13 (fun c _ _ _ _ h => h) (fun c _ h => h) (fun c _ h => h)
        have hj13 : J i true O1 h13 := hB.stable _ _ _ _ _ hj (x13.weak (S' := fun b => ¬ O1 b ∧ h.size ≤ b) fun _ _ h => h.elim)
        have htb : t.blk ≠ some b1 := fun e => by have := o.lt e; omega
        refine Loop.rule (fun m x h14 => ∃ (n : Nat) (sls' : List Sl), x = ((n : Int), ()) ∧ m = cur.length - n ∧ n ≤ cur.length ∧ Mod (fun c => t.blk = some c) h13 h14 ∧ Own SlE t_sl_api_Pair h14 t sls' ∧ NRows h.size h14 O1 t sls' ((cur.take n).map (dropW p) ++ cur.drop n)) ?_
          ⟨0, sls, rfl, rfl, by omega, Mod.refl, o13, by simpa using r13⟩
        rintro K6 m _ h14 ⟨n, sls', rfl, rfl, hn, m14, o14, r14⟩ hK6
        have hlc' : sls'.length = cur.length := by have := r14.len; simp at this; omega
        have hb14 := m14.blk hb1 htb
        refine PIf.intro (fun hq => ?_) (fun hq => ?_)
        · have hn' : n < cur.length := by simp [o14.len] at hq; omega
          have hgs := List.getElem?_eq_getElem (l := sls') (i := n) (by omega)
          have hgn : ((cur.take n).map (dropW p) ++ cur.drop n)[n]? = some cur[n] := by
            rw [List.getElem?_append_right (by simp; omega)]
            simp; rw [Nat.min_eq_left (by omega), Nat.sub_self]; simp [hn']
          obtain ⟨vn, hvb, hvc⟩ := r14.row n _ _ hgs hgn
          refine o14.view.idx hgs fun a8 ha8 c8 => ?_
          refine LoadL.mk c8.sl ?_
          refine Loop.rule (fun m x h15 => ∃ (y : Sl) (l' : List Pr), x = (y, ()) ∧ h15 = h14 ∧ m = l'.length ∧ View PairE h14 y l' ∧ (∀ c, y.blk = some c → sls'[n].blk = some c) ∧ dropW p l' = dropW p cur[n] ∧ l'.length ≤ 1099511627776) ?_
            ⟨_, _, rfl, rfl, rfl, vn, fun c h => h, rfl, hvb⟩
          rintro K7 m _ h15 ⟨y, l', rfl, hh15, rfl, vy, hyb, hdw, hyl⟩ hK7
          subst hh15
          refine Join.mk fun K8 hK8 => ?_
          have hend : dropW p l' = l' → K8 (false, ()) h15 := fun e => hK8 _ _ (PIf.no rfl (by
            refine o14.view.idx hgs fun a9 ha9 _ => ?_
            refine o14.store (i := n) (by omega) ha9 fun h17 o17 m17 hs17 => ?_
            refine hK6 (cur.length - (n + 1)) _ _ (by omega) ⟨n + 1, _, by rw [wrap_succ (by omega)], rfl, by omega, m14.trans m17, o17, ?_⟩
            have r17 : NRows h.size h17 O1 t sls' ((cur.take n).map (dropW p) ++ cur.drop n) := r14.mod m17 (fun c _ _ hn _ => hn) (fun c _ h => h) (fun c _ h => h)
            refine ⟨?_, fun j sl l h1 h2 => ?_⟩
            · simp [hlc']; omega
            · rcases Nat.lt_trichotomy j n with hjn | hjn | hjn
              · rw [List.getElem?_set_ne (by omega)] at h1
                refine r17.row j sl l h1 ?_
                rw [List.getElem?_append_left (by simp; omega)] at h2 ⊢
                rw [List.getElem?_map, List.getElem?_take_of_lt (by omega)] at h2 ⊢
                exact h2
              · subst hjn
                rw [List.getElem?_set_self (by omega)] at h1
                cases h1
                rw [List.getElem?_append_left (by simp; omega), List.getElem?_map, List.getElem?_take_of_lt (by omega), List.getElem?_eq_getElem hn'] at h2
                simp at h2
                subst h2
                rw [← hdw, e]
                obtain ⟨_, _, hc⟩ := r17.row j _ _ hgs hgn
                exact ⟨vy.mod m17 fun c hb => (hc c (hyb c hb)).2.2.1, hyl, fun c hb => hc c (hyb c hb)⟩
              · rw [List.getElem?_set_ne (by omega)] at h1
                refine r17.row j sl l h1 ?_
                rw [List.getElem?_append_right (by simp; omega)] at h2 ⊢
                simp only [List.length_map, List.length_take, List.getElem?_drop] at h2 ⊢
                rw [← h2]; congr 1; omega))
          refine PIf.intro (fun hq => ?_) (fun hq => ?_)
          · cases l' with
            | nil => have := vy.len; simp [this] at hq
            | cons q w =>
              refine vy.idx (i := 0) (x := q) rfl fun a10 _ c10 => ?_
              refine LoadS.mk c10.pair.1 (LoadS.mk (hget_lit hb14 rfl) ?_)
              cases hu : (sLt q.key p.key || sEq q.key p.key)
              · exact hend (by simp [dropW, upto, hu])
              · have hyl' := vy.len
                simp at hyl' hyl
                refine hK8 _ _ (PIf.yes rfl ⟨⟨by omega, by show (1 : Int) ≤ ((y.len : Nat) : Int); omega⟩, hK7 w.length _ _ (by simp) ⟨_, w, rfl, rfl, rfl, ?_, ?_, ?_, by omega⟩⟩)
                · have := vy.sub (lo := 1) (hi := (q :: w).length) (by simp) (Nat.le_refl _)
                  rw [List.take_length, ← vy.len] at this
                  exact this
                · intro c hc; exact hyb c (slOff_blk hc)
                · rw [← hdw]; simp [dropW, upto, hu]
          · have : l' = [] := by
              have := vy.len
              cases l' with
              | nil => rfl
              | cons q w => simp [this] at hq
            subst this
            exact hend rfl
        · have hn' : n = cur.length := by simp [o14.len] at hq; omega
          subst hn'
          rw [List.take_length, List.drop_length, List.append_nil] at r14
          refine LoadS.mk (hget_lit hb14 rfl) (LoadS.mk (hget_lit1 hb14 rfl) (LoadB.mk (hget_lit1 hb14 rfl) ?_))
          have hj14 : J i true O1 h14 := hB.stable _ _ _ _ _ hj13 (m14.weak fun c _ hc => ⟨hnt c hc, hbt c hc⟩)
          have hgo : out[i]? = some p := by have := hout 0; simpa using this
          refine CallV.mono (hY i p O1 h14 hgo hj14) ?_
          rintro _ h18 ⟨g, O2, rfl, hsub2, m18, hj18⟩
          have hs1 := m14.size
          have hs0 := hmd.size
          have hsub3 : ∀ b, O2 b → O b ∨ h.size ≤ b := fun b hb => (hsub2 b hb).elim (hsub b) fun hle => .inr (by omega)
          have md14 : Mod O h h14 := (hmd.trans x13.mod).then (m14.weak fun b _ hb => .inr (hbt b hb))
          have md18 : Mod O h h18 := md14.then (m18.weak fun b _ hb => hsub b hb)
          refine ⟨g, rfl, PIf.intro (fun hq => ?_) (fun hq => ?_)⟩
          · have hg : g = false := by simpa using hq
            subst hg
            exact ⟨rfl, i + 1, false, O2, md18, hsub3, hj18, (fun h => by cases h), by simp at hlen; omega⟩
          · have hg : g = true := by simpa using hq
            subst hg
            refine hK out2.length _ _ (by simp) ⟨i + 1, O2, sls', _, out2, hmg2, rfl, fun k => ?_, by simp at hlen; omega, md18, hsub3, hj18, o14.mod m18 (fun c hc => hnt c hc), ?_, ?_, by omega⟩
            · have := hout (k + 1)
              rw [show i + 1 + k = i + (k + 1) by omega, this]; rfl
            · intro c hc h2
              rcases hsub2 c h2 with h3 | h3
              · exact hnt c hc h3
              · have := o14.lt hc; omega
            · exact r14.mod m18 (fun c _ _ _ hn => hn) (fun c _ h => h) (fun c hc h2 => (hsub2 c h2).elim id fun h3 => by omega)
end Go.Lf.G
