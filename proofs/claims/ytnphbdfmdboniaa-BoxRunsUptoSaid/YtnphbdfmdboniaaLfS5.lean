/-
  Contracts: the document's box behind a crash; lists of strings alike; a box that is awake.
-/
import Derived.Test.YtnphbdfmdboniaaLfS4
set_option maxRecDepth 100000
set_option linter.unusedVariables false
set_option linter.unusedSimpArgs false
namespace Go.Lf.G
open Go

/-- a new variable of three strings -/
theorem New.three {h : Heap} {T : TypeId} {e1 e2 e3 : ByteArray} {k v g : ByteArray} {K : Nat → Heap → Prop}
    (H : ∀ b h', b = h.size → h'[b]? = some (.cells #[.string k, .string v, .string g] T (0, 0)) → Ext h h' → h'.size = h.size + 1 → K b h') :
    New h (.cells #[.string e1, .string e2, .string e3] T) fun b h1 => Store h1 ⟨b, 0, none⟩ (.string k) fun h2 => Store h2 ((⟨b, 0, none⟩ : Addr).add 1) (.string v) fun h3 => Store h3 ((⟨b, 0, none⟩ : Addr).add 2) (.string g) fun h4 => K b h4 := by
  refine New.mk fun h1 _ hb hx hsz => ?_
  refine Store.mk hb (by simp) fun h2 hb2 m2 hs2 => ?_
  rw [add_mk, add_mk]
  refine Store.mk hb2 (by simp) fun h3 hb3 m3 hs3 => ?_
  refine Store.mk hb3 (by simp) fun h4 hb4 m4 hs4 => ?_
  refine H _ _ rfl (by simpa using hb4) ?_ (by omega)
  have m := (m2.trans m3).trans m4
  exact ⟨by omega, fun b hlt _ => (m.get b (by omega) (by omega)).trans (hx.get b hlt (by simp))⟩

theorem good_take {m : Bx} (g : GoodB m) (ks : List Int) (i : Nat) : GoodB ⟨crashF ks 0 (m.files.take i), -1, false⟩ := by
  have hg : GoodB (crashB { m with files := m.files.take i } ks) := by
    refine GoodB.crash (m := { m with files := m.files.take i }) ⟨g.sorted.sublist (List.take_sublist _ _), fun f2 hf2 => g.names f2 (List.mem_of_mem_take (i := i) hf2), g.lo, g.hi, ?_⟩
    have := wtF_take i m.files
    have := g.wt
    show wtF (m.files.take i) ≤ 1099511627776
    omega
  exact hg

theorem rCrash_ok {A : Amb} {h : Heap} {b : Nat} {S : Nat → Prop} {m : Bx} {keep : Sl} {ks : List Int} {R : Value → Heap → Prop} (B : IsRef h b S m) (V : View IntE h keep ks)
    (H : ∀ b' h' S', IsRef h' b S (offB m) → IsRef h' b' S' (crashB m ks) → Mod S h h' → (∀ c, S' c → h.size ≤ c) → R (ptrV b') h') : HCalls A P f_wherryref03_Box_Crash #[ptrV b, .slice keep.p keep.len keep.cap] h R := by
  obtain ⟨s, B, hS⟩ := B
  have hlen : m.files.length ≤ 1099511627776 := by have := wtF_len m.files; have := B.good.wt; omega
  refine ok_wherryref03_Box_Crash ?_
  unfold F_wherryref03_Box_Crash
  refine rNew_ok fun h1 Bn x1 hs1 => ⟨_, rfl, ?_⟩
  refine Loop.rule (fun q x hh => ∃ (i : Nat) (y : Sl), x = (((cntF 0 (m.files.take i) : Nat) : Int), (i : Int), ()) ∧ q = m.files.length - i ∧ i ≤ m.files.length ∧
    RefAt hh h.size y ⟨crashF ks 0 (m.files.take i), -1, false⟩ ∧ (∀ c, y.blk = some c → h.size ≤ c) ∧ Ext h hh) ?_
    ⟨0, ⟨none, 0, 0⟩, rfl, rfl, by omega, by simpa [crashF, newB] using Bn, fun c hc => by simp [Sl.blk] at hc, x1⟩
  rintro K q _ hh ⟨i, y, rfl, rfl, hi, Bi, fy, m0⟩ hK
  have Bh := B.mod m0 (fun _ _ h => h)
  have Vh := Bh.own.view
  have hbl := blk_lt B.head
  refine atI (LoadL.mk (hget_lit Bh.head rfl) ?_)
  refine PIf.intro (fun hq => ?_) (fun hq => ?_)
  · have hil : i < m.files.length := by simpa [Vh.len] using hq
    have hgi := List.getElem?_eq_getElem hil
    generalize m.files[i] = f at hgi
    have hmem : f ∈ m.files := List.mem_of_getElem? hgi
    refine Join.mk fun K1 hK1 => ?_
    refine atI (LoadL.mk (hget_lit Bh.head rfl) (Vh.idx hgi fun a _ ca => LoadS.mk ca.fi.1 (LoadS.mk ca.fi.2.1 (LoadS.mk ca.fi.2.2 ?_))))
    refine New.three fun bf h7 eb hb7 x7 hs7 => ?_
    have hcount := cntF_le (m.files.take i) 0
    have hti : (m.files.take i).length = i := by simp; omega
    have hsnoc : m.files.take (i + 1) = m.files.take i ++ [f] := by rw [List.take_add_one, hgi]; rfl
    have hfw := wtF_mem hmem
    have hwt := B.good.wt
    have B7 := Bi.mod x7 (fun _ _ h => h)
    refine LoadS.mk (hget_lit1 hb7 rfl) (Join.mk fun K2 hK2 => ?_)
    have next : ∀ h5 y5, RefAt h5 h.size y5 ⟨crashF ks 0 (m.files.take (i + 1)), -1, false⟩ → (∀ c, y5.blk = some c → h.size ≤ c) → Ext h h5 → K1 (((nextF (cntF 0 (m.files.take i)) f : Nat) : Int), ()) h5 := fun h5 y5 B5 e5 m5 => by
      refine hK1 _ _ (hK (m.files.length - (i + 1)) _ _ (by omega) ⟨i + 1, y5, ?_, rfl, by omega, B5, e5, m5⟩)
      rw [wrap_succ (by omega), hsnoc, cntF_snoc]
    have x07 : Ext h h7 := m0.trans x7
    have keep2 : K2 (((nextF (cntF 0 (m.files.take i)) f : Nat) : Int), keptF ks (cntF 0 (m.files.take i)) f, ()) h7 := hK2 _ _ (by
      rw [sEq_iff]
      have hsn2 := crashF_snoc ks (m.files.take i) f
      rw [← hsnoc] at hsn2
      unfold oneF at hsn2
      have hl2 : (crashF ks 0 (m.files.take i)).length ≤ (m.files.take i).length := crashF_len
      refine PIf.intro (fun hq => ?_) (fun hq => ?_)
      · have hq : ¬ keptF ks (cntF 0 (m.files.take i)) f = bs0 := by simpa using hq
        rw [if_neg hq] at hsn2
        refine atI (LoadL.mk (hget_lit B7.head rfl) (LoadS.mk (hget_lit hb7 rfl) (New.mk fun h9 _ hb9 x9 hs9 => ?_)))
        have B9 := B7.mod x9 (fun _ _ h => h)
        refine ⟨hget_lit B9.head rfl, ?_⟩
        have o9 : Own FiE t_wherryref03_File h9 ⟨some ⟨h7.size, 0, none⟩, 1, 1⟩ [⟨f.name, keptF ks (cntF 0 (m.files.take i)) f, bs0⟩] := Own.lit (E := FiE) (l := [⟨f.name, keptF ks (cntF 0 (m.files.take i)) f, bs0⟩]) hb9 rfl (by simp [maxLen])
        refine append_own (E := FiE) (s := y) (src := ⟨some ⟨h7.size, 0, none⟩, 1, 1⟩) app_file B9.own o9.view (by simp; omega) (by simp [maxLen]; omega) fun y5 h10 o10 m10 bl10 _ => ?_
        have hnb := B9.ne
        have hb10 := m10.blk B9.head hnb
        refine atI (Store.mk hb10 (by simp) fun h11 hb11 m11 hs11 => ?_)
        have f5 : ∀ c, y5.blk = some c → h.size ≤ c := fun c hc => (bl10 c hc).elim (fy c) fun h => by have := x07.size; have := x9.size; omega
        have o11 : Own FiE t_wherryref03_File h11 y5 (crashF ks 0 (m.files.take (i + 1))) := by
          rw [hsn2]
          refine o10.mod m11 fun c hc e => ?_
          rcases bl10 c hc with h | h
          · exact hnb (e ▸ h)
          · have := blk_lt B9.head; omega
        refine next h11 y5 ⟨by simpa using hb11, o11, good_take B.good ks (i + 1)⟩ f5 (((x07.trans x9).then (m10.weak fun c _ hc => .inr (fy c hc))).then (m11.weak fun c _ hc => .inr (by omega)))
      · have hq : keptF ks (cntF 0 (m.files.take i)) f = bs0 := by simpa using hq
        rw [if_pos hq, List.append_nil] at hsn2
        exact next h7 y (by rw [hsn2]; exact B7) fy x07)
    refine LoadS.mk (hget_lit1 hb7 rfl) ?_
    rw [sEq_iff]
    unfold keptF nextF at keep2
    refine PIf.intro (fun hq => ?_) (fun hq => ?_)
    · have hq : ¬ f.soft = bs0 := by simpa using hq
      rw [if_neg hq, if_neg hq] at keep2
      refine Join.mk fun K3 hK3 => ?_
      have k3 : ∀ x, x = (match ks[cntF 0 (m.files.take i)]? with | some n => f.firm ++ f.soft.extract 0 (min n.toNat f.soft.size) | none => f.firm) → K3 (x, ()) h7 := fun x hx => hK3 _ _ (by
        rw [wrap_succ (by omega), hx]; exact keep2)
      refine Join.mk fun K4 hK4 => ?_
      refine PIf.intro (fun hq2 => ?_) (fun hq2 => ?_)
      · have hkl : cntF 0 (m.files.take i) < ks.length := by simpa [V.len] using hq2
        have hgk := List.getElem?_eq_getElem hkl
        generalize ks[cntF 0 (m.files.take i)] = n at hgk
        rw [hgk] at k3
        have V7 := V.ext x07
        refine V7.idx hgk fun a _ ca => LoadI.mk ca.int (hK4 _ _ ?_)
        refine PIf.intro (fun hq3 => ?_) (fun hq3 => ?_)
        · have hn : n > 0 := by simpa using hq3
          refine LoadS.mk (hget_lit1 hb7 rfl) (V7.idx hgk fun a _ ca => LoadI.mk ca.int (LoadS.mk (hget_lit1 hb7 rfl) ?_))
          have e : (if ((f.soft.size : Int) : Int) < n then (f.soft.size : Int) else n) = ((min n.toNat f.soft.size : Nat) : Int) := by
            split <;> omega
          rw [e]
          refine ⟨⟨by omega, by omega⟩, ?_, ?_⟩
          · rw [max_i64, ByteArray.size_extract]; omega
          · exact k3 _ rfl
        · have hn : n ≤ 0 := by simpa using hq3
          refine k3 _ ?_
          have e : min n.toNat f.soft.size = 0 := by omega
          simp only [e]
          have e2 : f.soft.extract 0 0 = bs0 := by simp [ByteArray.ext_iff, bs0]
          rw [e2, app_nil]
      · have hkl : ks.length ≤ cntF 0 (m.files.take i) := by simpa [V.len] using hq2
        refine hK4 _ _ (PIf.no rfl (k3 _ ?_))
        rw [List.getElem?_eq_none hkl]
    · have hq : f.soft = bs0 := by simpa using hq
      rw [if_pos hq, if_pos hq] at keep2
      exact keep2
  · have hil : i = m.files.length := by simp [Vh.len] at hq; omega
    subst hil
    rw [List.take_length] at Bi
    refine atI (Store.mk1 Bh.head (by simp) fun h5 hb5 m5 hs5 => ?_)
    have B5 := Bh.hd (m' := offB m) (by simpa [offB] using hb5) m5 rfl B.good.off
    refine H h.size h5 (footR h.size y) ⟨s, B5, hS⟩ ⟨y, Bi.mod m5 ?_, fun _ => Iff.rfl⟩ (m0.mod.trans (m5.weak fun c _ hc => (hS c).2 (.inl hc))) ?_
    · rintro c (rfl | hc) e
      · omega
      · have := fy c hc; omega
    · rintro c (rfl | hc)
      · exact Nat.le_refl _
      · exact fy c hc

theorem Same_ok {A : Amb} {h : Heap} {a b : Sl} {la lb : List ByteArray} {R : Value → Heap → Prop} (va : View StrE h a la) (vb : View StrE h b lb) (hl : la.length ≤ 1099511627776)
    (H : R (.bool (decide (la = lb))) h) : HCalls A P f_wherryref02_Same #[.slice a.p a.len a.cap, .slice b.p b.len b.cap] h R := by
  refine ok_wherryref02_Same ?_
  unfold F_wherryref02_Same
  rw [va.len, vb.len]
  refine PIf.intro (fun hc => ?_) (fun hc => ?_)
  · have : la ≠ lb := by rintro rfl; simp at hc
    simpa [this] using H
  · have hlen : la.length = lb.length := by simp at hc; omega
    refine Loop.rule (fun m x h1 => ∃ i : Nat, x = ((i : Int), ()) ∧ h1 = h ∧ m = la.length - i ∧ i ≤ la.length ∧ la.take i = lb.take i) ?_ ⟨0, rfl, rfl, rfl, by omega, by simp⟩
    rintro K m _ _ ⟨i, rfl, rfl, rfl, hi, he⟩ hK
    refine PIf.intro (fun hc => ?_) (fun hc => ?_)
    · have hi' : i < la.length := by simpa using hc
      rw [← va.len]
      refine va.idx (List.getElem?_eq_getElem hi') fun a1 _ c1 => LoadS.mk c1.str ?_
      rw [← vb.len]
      refine vb.idx (List.getElem?_eq_getElem (by omega)) fun a2 _ c2 => LoadS.mk c2.str ?_
      rw [sEq_iff]
      refine PIf.intro (fun hq => ?_) (fun hq => ?_)
      · have : la ≠ lb := by rintro rfl; simp at hq
        simpa [this] using H
      · simp at hq
        refine hK _ _ _ ?_ ⟨i + 1, by rw [wrap_succ (by omega)], rfl, rfl, by omega, ?_⟩
        · omega
        · rw [List.take_add_one, List.take_add_one, he, List.getElem?_eq_getElem hi', List.getElem?_eq_getElem (by omega), hq]
    · have hi' : i = la.length := by simp at hc; omega
      subst hi'
      rw [List.take_length, hlen, List.take_length] at he
      simpa [he] using H

/-- box and document tell the same of the same files -/
theorem same03_ok {A : Amb} {h : Heap} {b c : Nat} {S S' : Nat → Prop} {m : Bx} {R : Value → Heap → Prop} (B : IsBox h b S m) (C : IsRef h c S' m) (H : ∀ h', Ext h h' → R (.bool true) h') :
    HCalls A P f_wherrylaw03_same #[ptrV b, ptrV c] h R := by
  refine ok_wherrylaw03_same ?_
  unfold F_wherrylaw03_same
  refine bList_ok B fun s1 h1 o1 x1 f1 => ⟨s1, _, rfl, ?_⟩
  refine rList_ok (C.ext x1) fun s2 h2 o2 x2 f2 => ⟨s2, _, rfl, ?_⟩
  have hlen : m.files.length ≤ 1099511627776 := by have := wtF_len m.files; have := B.good.wt; omega
  have hl : (listB m).1.length ≤ 1099511627776 := by unfold listB; split <;> simp; omega
  refine Join.mk fun K hK => ?_
  refine PIf.no (by simp) ?_
  refine Same_ok (o1.ext x2).view o2.view hl ⟨_, rfl, hK _ _ ?_⟩
  refine PIf.no (by simp) ?_
  refine Loop.rule (fun q x hh => ∃ i : Nat, x = ((i : Int), ()) ∧ hh = h2 ∧ q = (listB m).1.length - i ∧ i ≤ (listB m).1.length) ?_ ⟨0, rfl, rfl, rfl, by omega⟩
  rintro K1 q _ hh ⟨i, rfl, e, rfl, hi⟩ hK1
  subst e
  have V := o2.view
  refine PIf.intro (fun hq => ?_) (fun hq => ?_)
  · have hil : i < (listB m).1.length := by simpa [V.len] using hq
    refine V.idx (List.getElem?_eq_getElem hil) fun a _ ca => LoadS.mk ca.str ?_
    refine bRead_ok ((B.ext x1).ext x2) ⟨_, _, rfl, rRead_ok ((C.ext x1).ext x2) ⟨_, _, rfl, Join.mk fun K2 hK2 => ?_⟩⟩
    refine PIf.no (by rw [sEq_iff]; simp) (hK2 _ _ (PIf.no (by simp) ?_))
    exact hK1 _ _ _ (by omega) ⟨i + 1, by rw [wrap_succ (by omega)], rfl, rfl, hil⟩
  · exact H hh (x1.trans x2)
end Go.Lf.G
