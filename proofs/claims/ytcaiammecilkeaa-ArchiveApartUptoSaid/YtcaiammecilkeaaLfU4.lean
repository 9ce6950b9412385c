/-
  LIFT, part U4: a new variable whose cells are stored one by one.
-/
import Derived.Test.YtcaiammecilkeaaLfU3
set_option maxRecDepth 100000
namespace Go.Lf
open Go

theorem New.copy1 {h : Heap} {T : TypeId} {z0 v0 : Value} {K : Nat → Heap → Prop}
    (H : ∀ b h', b = h.size → h'[b]? = some (.cells #[v0] T (0, 0)) → Ext h h' → h'.size = h.size + 1 → K b h') :
    New h (.cells #[z0] T) fun b h1 => Store h1 ⟨b, 0, none⟩ v0 fun h2 => K b h2 := by
  refine New.mk fun h1 _ hb1 x1 hs1 => ?_
  refine Store.mk hb1 (by simp) fun h2 hb2 m2 hs2 => ?_
  refine H _ _ rfl (by simpa using hb2) ?_ (by omega)
  have m := m2
  exact ⟨by omega, fun b hlt _ => (m.get b (by omega) (by omega)).trans (x1.get b hlt (by simp))⟩
theorem New.copy2 {h : Heap} {T : TypeId} {z0 z1 v0 v1 : Value} {K : Nat → Heap → Prop}
    (H : ∀ b h', b = h.size → h'[b]? = some (.cells #[v0, v1] T (0, 0)) → Ext h h' → h'.size = h.size + 1 → K b h') :
    New h (.cells #[z0, z1] T) fun b h1 => Store h1 ⟨b, 0, none⟩ v0 fun h2 => Store h2 ((⟨b, 0, none⟩ : Addr).add 1) v1 fun h3 => K b h3 := by
  refine New.mk fun h1 _ hb1 x1 hs1 => ?_
  simp only [add_mk, Nat.zero_add]
  refine Store.mk hb1 (by simp) fun h2 hb2 m2 hs2 => ?_
  refine Store.mk hb2 (by simp) fun h3 hb3 m3 hs3 => ?_
  refine H _ _ rfl (by simpa using hb3) ?_ (by omega)
  have m := (m2.trans m3)
  exact ⟨by omega, fun b hlt _ => (m.get b (by omega) (by omega)).trans (x1.get b hlt (by simp))⟩
theorem New.copy3 {h : Heap} {T : TypeId} {z0 z1 z2 v0 v1 v2 : Value} {K : Nat → Heap → Prop}
    (H : ∀ b h', b = h.size → h'[b]? = some (.cells #[v0, v1, v2] T (0, 0)) → Ext h h' → h'.size = h.size + 1 → K b h') :
    New h (.cells #[z0, z1, z2] T) fun b h1 => Store h1 ⟨b, 0, none⟩ v0 fun h2 => Store h2 ((⟨b, 0, none⟩ : Addr).add 1) v1 fun h3 => Store h3 ((⟨b, 0, none⟩ : Addr).add 2) v2 fun h4 => K b h4 := by
  refine New.mk fun h1 _ hb1 x1 hs1 => ?_
  simp only [add_mk, Nat.zero_add]
  refine Store.mk hb1 (by simp) fun h2 hb2 m2 hs2 => ?_
  refine Store.mk hb2 (by simp) fun h3 hb3 m3 hs3 => ?_
  refine Store.mk hb3 (by simp) fun h4 hb4 m4 hs4 => ?_
  refine H _ _ rfl (by simpa using hb4) ?_ (by omega)
  have m := ((m2.trans m3).trans m4)
  exact ⟨by omega, fun b hlt _ => (m.get b (by omega) (by omega)).trans (x1.get b hlt (by simp))⟩
theorem New.copy4 {h : Heap} {T : TypeId} {z0 z1 z2 z3 v0 v1 v2 v3 : Value} {K : Nat → Heap → Prop}
    (H : ∀ b h', b = h.size → h'[b]? = some (.cells #[v0, v1, v2, v3] T (0, 0)) → Ext h h' → h'.size = h.size + 1 → K b h') :
    New h (.cells #[z0, z1, z2, z3] T) fun b h1 => Store h1 ⟨b, 0, none⟩ v0 fun h2 => Store h2 ((⟨b, 0, none⟩ : Addr).add 1) v1 fun h3 => Store h3 ((⟨b, 0, none⟩ : Addr).add 2) v2 fun h4 => Store h4 ((⟨b, 0, none⟩ : Addr).add 3) v3 fun h5 => K b h5 := by
  refine New.mk fun h1 _ hb1 x1 hs1 => ?_
  simp only [add_mk, Nat.zero_add]
  refine Store.mk hb1 (by simp) fun h2 hb2 m2 hs2 => ?_
  refine Store.mk hb2 (by simp) fun h3 hb3 m3 hs3 => ?_
  refine Store.mk hb3 (by simp) fun h4 hb4 m4 hs4 => ?_
  refine Store.mk hb4 (by simp) fun h5 hb5 m5 hs5 => ?_
  refine H _ _ rfl (by simpa using hb5) ?_ (by omega)
  have m := (((m2.trans m3).trans m4).trans m5)
  exact ⟨by omega, fun b hlt _ => (m.get b (by omega) (by omega)).trans (x1.get b hlt (by simp))⟩
theorem New.copy5 {h : Heap} {T : TypeId} {z0 z1 z2 z3 z4 v0 v1 v2 v3 v4 : Value} {K : Nat → Heap → Prop}
    (H : ∀ b h', b = h.size → h'[b]? = some (.cells #[v0, v1, v2, v3, v4] T (0, 0)) → Ext h h' → h'.size = h.size + 1 → K b h') :
    New h (.cells #[z0, z1, z2, z3, z4] T) fun b h1 => Store h1 ⟨b, 0, none⟩ v0 fun h2 => Store h2 ((⟨b, 0, none⟩ : Addr).add 1) v1 fun h3 => Store h3 ((⟨b, 0, none⟩ : Addr).add 2) v2 fun h4 => Store h4 ((⟨b, 0, none⟩ : Addr).add 3) v3 fun h5 => Store h5 ((⟨b, 0, none⟩ : Addr).add 4) v4 fun h6 => K b h6 := by
  refine New.mk fun h1 _ hb1 x1 hs1 => ?_
  simp only [add_mk, Nat.zero_add]
  refine Store.mk hb1 (by simp) fun h2 hb2 m2 hs2 => ?_
  refine Store.mk hb2 (by simp) fun h3 hb3 m3 hs3 => ?_
  refine Store.mk hb3 (by simp) fun h4 hb4 m4 hs4 => ?_
  refine Store.mk hb4 (by simp) fun h5 hb5 m5 hs5 => ?_
  refine Store.mk hb5 (by simp) fun h6 hb6 m6 hs6 => ?_
  refine H _ _ rfl (by simpa using hb6) ?_ (by omega)
  have m := ((((m2.trans m3).trans m4).trans m5).trans m6)
  exact ⟨by omega, fun b hlt _ => (m.get b (by omega) (by omega)).trans (x1.get b hlt (by simp))⟩
theorem New.copy6 {h : Heap} {T : TypeId} {z0 z1 z2 z3 z4 z5 v0 v1 v2 v3 v4 v5 : Value} {K : Nat → Heap → Prop}
    (H : ∀ b h', b = h.size → h'[b]? = some (.cells #[v0, v1, v2, v3, v4, v5] T (0, 0)) → Ext h h' → h'.size = h.size + 1 → K b h') :
    New h (.cells #[z0, z1, z2, z3, z4, z5] T) fun b h1 => Store h1 ⟨b, 0, none⟩ v0 fun h2 => Store h2 ((⟨b, 0, none⟩ : Addr).add 1) v1 fun h3 => Store h3 ((⟨b, 0, none⟩ : Addr).add 2) v2 fun h4 => Store h4 ((⟨b, 0, none⟩ : Addr).add 3) v3 fun h5 => Store h5 ((⟨b, 0, none⟩ : Addr).add 4) v4 fun h6 => Store h6 ((⟨b, 0, none⟩ : Addr).add 5) v5 fun h7 => K b h7 := by
  refine New.mk fun h1 _ hb1 x1 hs1 => ?_
  simp only [add_mk, Nat.zero_add]
  refine Store.mk hb1 (by simp) fun h2 hb2 m2 hs2 => ?_
  refine Store.mk hb2 (by simp) fun h3 hb3 m3 hs3 => ?_
  refine Store.mk hb3 (by simp) fun h4 hb4 m4 hs4 => ?_
  refine Store.mk hb4 (by simp) fun h5 hb5 m5 hs5 => ?_
  refine Store.mk hb5 (by simp) fun h6 hb6 m6 hs6 => ?_
  refine Store.mk hb6 (by simp) fun h7 hb7 m7 hs7 => ?_
  refine H _ _ rfl (by simpa using hb7) ?_ (by omega)
  have m := (((((m2.trans m3).trans m4).trans m5).trans m6).trans m7)
  exact ⟨by omega, fun b hlt _ => (m.get b (by omega) (by omega)).trans (x1.get b hlt (by simp))⟩
theorem New.copy7 {h : Heap} {T : TypeId} {z0 z1 z2 z3 z4 z5 z6 v0 v1 v2 v3 v4 v5 v6 : Value} {K : Nat → Heap → Prop}
    (H : ∀ b h', b = h.size → h'[b]? = some (.cells #[v0, v1, v2, v3, v4, v5, v6] T (0, 0)) → Ext h h' → h'.size = h.size + 1 → K b h') :
    New h (.cells #[z0, z1, z2, z3, z4, z5, z6] T) fun b h1 => Store h1 ⟨b, 0, none⟩ v0 fun h2 => Store h2 ((⟨b, 0, none⟩ : Addr).add 1) v1 fun h3 => Store h3 ((⟨b, 0, none⟩ : Addr).add 2) v2 fun h4 => Store h4 ((⟨b, 0, none⟩ : Addr).add 3) v3 fun h5 => Store h5 ((⟨b, 0, none⟩ : Addr).add 4) v4 fun h6 => Store h6 ((⟨b, 0, none⟩ : Addr).add 5) v5 fun h7 => Store h7 ((⟨b, 0, none⟩ : Addr).add 6) v6 fun h8 => K b h8 := by
  refine New.mk fun h1 _ hb1 x1 hs1 => ?_
  simp only [add_mk, Nat.zero_add]
  refine Store.mk hb1 (by simp) fun h2 hb2 m2 hs2 => ?_
  refine Store.mk hb2 (by simp) fun h3 hb3 m3 hs3 => ?_
  refine Store.mk hb3 (by simp) fun h4 hb4 m4 hs4 => ?_
  refine Store.mk hb4 (by simp) fun h5 hb5 m5 hs5 => ?_
  refine Store.mk hb5 (by simp) fun h6 hb6 m6 hs6 => ?_
  refine Store.mk hb6 (by simp) fun h7 hb7 m7 hs7 => ?_
  refine Store.mk hb7 (by simp) fun h8 hb8 m8 hs8 => ?_
  refine H _ _ rfl (by simpa using hb8) ?_ (by omega)
  have m := ((((((m2.trans m3).trans m4).trans m5).trans m6).trans m7).trans m8)
  exact ⟨by omega, fun b hlt _ => (m.get b (by omega) (by omega)).trans (x1.get b hlt (by simp))⟩
theorem New.copy8 {h : Heap} {T : TypeId} {z0 z1 z2 z3 z4 z5 z6 z7 v0 v1 v2 v3 v4 v5 v6 v7 : Value} {K : Nat → Heap → Prop}
    (H : ∀ b h', b = h.size → h'[b]? = some (.cells #[v0, v1, v2, v3, v4, v5, v6, v7] T (0, 0)) → Ext h h' → h'.size = h.size + 1 → K b h') :
    New h (.cells #[z0, z1, z2, z3, z4, z5, z6, z7] T) fun b h1 => Store h1 ⟨b, 0, none⟩ v0 fun h2 => Store h2 ((⟨b, 0, none⟩ : Addr).add 1) v1 fun h3 => Store h3 ((⟨b, 0, none⟩ : Addr).add 2) v2 fun h4 => Store h4 ((⟨b, 0, none⟩ : Addr).add 3) v3 fun h5 => Store h5 ((⟨b, 0, none⟩ : Addr).add 4) v4 fun h6 => Store h6 ((⟨b, 0, none⟩ : Addr).add 5) v5 fun h7 => Store h7 ((⟨b, 0, none⟩ : Addr).add 6) v6 fun h8 => Store h8 ((⟨b, 0, none⟩ : Addr).add 7) v7 fun h9 => K b h9 := by
  refine New.mk fun h1 _ hb1 x1 hs1 => ?_
  simp only [add_mk, Nat.zero_add]
  refine Store.mk hb1 (by simp) fun h2 hb2 m2 hs2 => ?_
  refine Store.mk hb2 (by simp) fun h3 hb3 m3 hs3 => ?_
  refine Store.mk hb3 (by simp) fun h4 hb4 m4 hs4 => ?_
  refine Store.mk hb4 (by simp) fun h5 hb5 m5 hs5 => ?_
  refine Store.mk hb5 (by simp) fun h6 hb6 m6 hs6 => ?_
  refine Store.mk hb6 (by simp) fun h7 hb7 m7 hs7 => ?_
  refine Store.mk hb7 (by simp) fun h8 hb8 m8 hs8 => ?_
  refine Store.mk hb8 (by simp) fun h9 hb9 m9 hs9 => ?_
  refine H _ _ rfl (by simpa using hb9) ?_ (by omega)
  have m := (((((((m2.trans m3).trans m4).trans m5).trans m6).trans m7).trans m8).trans m9)
  exact ⟨by omega, fun b hlt _ => (m.get b (by omega) (by omega)).trans (x1.get b hlt (by simp))⟩
theorem New.copy9 {h : Heap} {T : TypeId} {z0 z1 z2 z3 z4 z5 z6 z7 z8 v0 v1 v2 v3 v4 v5 v6 v7 v8 : Value} {K : Nat → Heap → Prop}
    (H : ∀ b h', b = h.size → h'[b]? = some (.cells #[v0, v1, v2, v3, v4, v5, v6, v7, v8] T (0, 0)) → Ext h h' → h'.size = h.size + 1 → K b h') :
    New h (.cells #[z0, z1, z2, z3, z4, z5, z6, z7, z8] T) fun b h1 => Store h1 ⟨b, 0, none⟩ v0 fun h2 => Store h2 ((⟨b, 0, none⟩ : Addr).add 1) v1 fun h3 => Store h3 ((⟨b, 0, none⟩ : Addr).add 2) v2 fun h4 => Store h4 ((⟨b, 0, none⟩ : Addr).add 3) v3 fun h5 => Store h5 ((⟨b, 0, none⟩ : Addr).add 4) v4 fun h6 => Store h6 ((⟨b, 0, none⟩ : Addr).add 5) v5 fun h7 => Store h7 ((⟨b, 0, none⟩ : Addr).add 6) v6 fun h8 => Store h8 ((⟨b, 0, none⟩ : Addr).add 7) v7 fun h9 => Store h9 ((⟨b, 0, none⟩ : Addr).add 8) v8 fun h10 => K b h10 := by
  refine New.mk fun h1 _ hb1 x1 hs1 => ?_
  simp only [add_mk, Nat.zero_add]
  refine Store.mk hb1 (by simp) fun h2 hb2 m2 hs2 => ?_
  refine Store.mk hb2 (by simp) fun h3 hb3 m3 hs3 => ?_
  refine Store.mk hb3 (by simp) fun h4 hb4 m4 hs4 => ?_
  refine Store.mk hb4 (by simp) fun h5 hb5 m5 hs5 => ?_
  refine Store.mk hb5 (by simp) fun h6 hb6 m6 hs6 => ?_
  refine Store.mk hb6 (by simp) fun h7 hb7 m7 hs7 => ?_
  refine Store.mk hb7 (by simp) fun h8 hb8 m8 hs8 => ?_
  refine Store.mk hb8 (by simp) fun h9 hb9 m9 hs9 => ?_
  refine Store.mk hb9 (by simp) fun h10 hb10 m10 hs10 => ?_
  refine H _ _ rfl (by simpa using hb10) ?_ (by omega)
  have m := ((((((((m2.trans m3).trans m4).trans m5).trans m6).trans m7).trans m8).trans m9).trans m10)
  exact ⟨by omega, fun b hlt _ => (m.get b (by omega) (by omega)).trans (x1.get b hlt (by simp))⟩
theorem New.copy10 {h : Heap} {T : TypeId} {z0 z1 z2 z3 z4 z5 z6 z7 z8 z9 v0 v1 v2 v3 v4 v5 v6 v7 v8 v9 : Value} {K : Nat → Heap → Prop}
    (H : ∀ b h', b = h.size → h'[b]? = some (.cells #[v0, v1, v2, v3, v4, v5, v6, v7, v8, v9] T (0, 0)) → Ext h h' → h'.size = h.size + 1 → K b h') :
    New h (.cells #[z0, z1, z2, z3, z4, z5, z6, z7, z8, z9] T) fun b h1 => Store h1 ⟨b, 0, none⟩ v0 fun h2 => Store h2 ((⟨b, 0, none⟩ : Addr).add 1) v1 fun h3 => Store h3 ((⟨b, 0, none⟩ : Addr).add 2) v2 fun h4 => Store h4 ((⟨b, 0, none⟩ : Addr).add 3) v3 fun h5 => Store h5 ((⟨b, 0, none⟩ : Addr).add 4) v4 fun h6 => Store h6 ((⟨b, 0, none⟩ : Addr).add 5) v5 fun h7 => Store h7 ((⟨b, 0, none⟩ : Addr).add 6) v6 fun h8 => Store h8 ((⟨b, 0, none⟩ : Addr).add 7) v7 fun h9 => Store h9 ((⟨b, 0, none⟩ : Addr).add 8) v8 fun h10 => Store h10 ((⟨b, 0, none⟩ : Addr).add 9) v9 fun h11 => K b h11 := by
  refine New.mk fun h1 _ hb1 x1 hs1 => ?_
  simp only [add_mk, Nat.zero_add]
  refine Store.mk hb1 (by simp) fun h2 hb2 m2 hs2 => ?_
  refine Store.mk hb2 (by simp) fun h3 hb3 m3 hs3 => ?_
  refine Store.mk hb3 (by simp) fun h4 hb4 m4 hs4 => ?_
  refine Store.mk hb4 (by simp) fun h5 hb5 m5 hs5 => ?_
  refine Store.mk hb5 (by simp) fun h6 hb6 m6 hs6 => ?_
  refine Store.mk hb6 (by simp) fun h7 hb7 m7 hs7 => ?_
  refine Store.mk hb7 (by simp) fun h8 hb8 m8 hs8 => ?_
  refine Store.mk hb8 (by simp) fun h9 hb9 m9 hs9 => ?_
  refine Store.mk hb9 (by simp) fun h10 hb10 m10 hs10 => ?_
  refine Store.mk hb10 (by simp) fun h11 hb11 m11 hs11 => ?_
  refine H _ _ rfl (by simpa using hb11) ?_ (by omega)
  have m := (((((((((m2.trans m3).trans m4).trans m5).trans m6).trans m7).trans m8).trans m9).trans m10).trans m11)
  exact ⟨by omega, fun b hlt _ => (m.get b (by omega) (by omega)).trans (x1.get b hlt (by simp))⟩
theorem New.copy11 {h : Heap} {T : TypeId} {z0 z1 z2 z3 z4 z5 z6 z7 z8 z9 z10 v0 v1 v2 v3 v4 v5 v6 v7 v8 v9 v10 : Value} {K : Nat → Heap → Prop}
    (H : ∀ b h', b = h.size → h'[b]? = some (.cells #[v0, v1, v2, v3, v4, v5, v6, v7, v8, v9, v10] T (0, 0)) → Ext h h' → h'.size = h.size + 1 → K b h') :
    New h (.cells #[z0, z1, z2, z3, z4, z5, z6, z7, z8, z9, z10] T) fun b h1 => Store h1 ⟨b, 0, none⟩ v0 fun h2 => Store h2 ((⟨b, 0, none⟩ : Addr).add 1) v1 fun h3 => Store h3 ((⟨b, 0, none⟩ : Addr).add 2) v2 fun h4 => Store h4 ((⟨b, 0, none⟩ : Addr).add 3) v3 fun h5 => Store h5 ((⟨b, 0, none⟩ : Addr).add 4) v4 fun h6 => Store h6 ((⟨b, 0, none⟩ : Addr).add 5) v5 fun h7 => Store h7 ((⟨b, 0, none⟩ : Addr).add 6) v6 fun h8 => Store h8 ((⟨b, 0, none⟩ : Addr).add 7) v7 fun h9 => Store h9 ((⟨b, 0, none⟩ : Addr).add 8) v8 fun h10 => Store h10 ((⟨b, 0, none⟩ : Addr).add 9) v9 fun h11 => Store h11 ((⟨b, 0, none⟩ : Addr).add 10) v10 fun h12 => K b h12 := by
  refine New.mk fun h1 _ hb1 x1 hs1 => ?_
  simp only [add_mk, Nat.zero_add]
  refine Store.mk hb1 (by simp) fun h2 hb2 m2 hs2 => ?_
  refine Store.mk hb2 (by simp) fun h3 hb3 m3 hs3 => ?_
  refine Store.mk hb3 (by simp) fun h4 hb4 m4 hs4 => ?_
  refine Store.mk hb4 (by simp) fun h5 hb5 m5 hs5 => ?_
  refine Store.mk hb5 (by simp) fun h6 hb6 m6 hs6 => ?_
  refine Store.mk hb6 (by simp) fun h7 hb7 m7 hs7 => ?_
  refine Store.mk hb7 (by simp) fun h8 hb8 m8 hs8 => ?_
  refine Store.mk hb8 (by simp) fun h9 hb9 m9 hs9 => ?_
  refine Store.mk hb9 (by simp) fun h10 hb10 m10 hs10 => ?_
  refine Store.mk hb10 (by simp) fun h11 hb11 m11 hs11 => ?_
  refine Store.mk hb11 (by simp) fun h12 hb12 m12 hs12 => ?_
  refine H _ _ rfl (by simpa using hb12) ?_ (by omega)
  have m := ((((((((((m2.trans m3).trans m4).trans m5).trans m6).trans m7).trans m8).trans m9).trans m10).trans m11).trans m12)
  exact ⟨by omega, fun b hlt _ => (m.get b (by omega) (by omega)).trans (x1.get b hlt (by simp))⟩
theorem New.copy12 {h : Heap} {T : TypeId} {z0 z1 z2 z3 z4 z5 z6 z7 z8 z9 z10 z11 v0 v1 v2 v3 v4 v5 v6 v7 v8 v9 v10 v11 : Value} {K : Nat → Heap → Prop}
    (H : ∀ b h', b = h.size → h'[b]? = some (.cells #[v0, v1, v2, v3, v4, v5, v6, v7, v8, v9, v10, v11] T (0, 0)) → Ext h h' → h'.size = h.size + 1 → K b h') :
    New h (.cells #[z0, z1, z2, z3, z4, z5, z6, z7, z8, z9, z10, z11] T) fun b h1 => Store h1 ⟨b, 0, none⟩ v0 fun h2 => Store h2 ((⟨b, 0, none⟩ : Addr).add 1) v1 fun h3 => Store h3 ((⟨b, 0, none⟩ : Addr).add 2) v2 fun h4 => Store h4 ((⟨b, 0, none⟩ : Addr).add 3) v3 fun h5 => Store h5 ((⟨b, 0, none⟩ : Addr).add 4) v4 fun h6 => Store h6 ((⟨b, 0, none⟩ : Addr).add 5) v5 fun h7 => Store h7 ((⟨b, 0, none⟩ : Addr).add 6) v6 fun h8 => Store h8 ((⟨b, 0, none⟩ : Addr).add 7) v7 fun h9 => Store h9 ((⟨b, 0, none⟩ : Addr).add 8) v8 fun h10 => Store h10 ((⟨b, 0, none⟩ : Addr).add 9) v9 fun h11 => Store h11 ((⟨b, 0, none⟩ : Addr).add 10) v10 fun h12 => Store h12 ((⟨b, 0, none⟩ : Addr).add 11) v11 fun h13 => K b h13 := by
  refine New.mk fun h1 _ hb1 x1 hs1 => ?_
  simp only [add_mk, Nat.zero_add]
  refine Store.mk hb1 (by simp) fun h2 hb2 m2 hs2 => ?_
  refine Store.mk hb2 (by simp) fun h3 hb3 m3 hs3 => ?_
  refine Store.mk hb3 (by simp) fun h4 hb4 m4 hs4 => ?_
  refine Store.mk hb4 (by simp) fun h5 hb5 m5 hs5 => ?_
  refine Store.mk hb5 (by simp) fun h6 hb6 m6 hs6 => ?_
  refine Store.mk hb6 (by simp) fun h7 hb7 m7 hs7 => ?_
  refine Store.mk hb7 (by simp) fun h8 hb8 m8 hs8 => ?_
  refine Store.mk hb8 (by simp) fun h9 hb9 m9 hs9 => ?_
  refine Store.mk hb9 (by simp) fun h10 hb10 m10 hs10 => ?_
  refine Store.mk hb10 (by simp) fun h11 hb11 m11 hs11 => ?_
  refine Store.mk hb11 (by simp) fun h12 hb12 m12 hs12 => ?_
  refine Store.mk hb12 (by simp) fun h13 hb13 m13 hs13 => ?_
  refine H _ _ rfl (by simpa using hb13) ?_ (by omega)
  have m := (((((((((((m2.trans m3).trans m4).trans m5).trans m6).trans m7).trans m8).trans m9).trans m10).trans m11).trans m12).trans m13)
  exact ⟨by omega, fun b hlt _ => (m.get b (by omega) (by omega)).trans (x1.get b hlt (by simp))⟩
end Go.Lf
