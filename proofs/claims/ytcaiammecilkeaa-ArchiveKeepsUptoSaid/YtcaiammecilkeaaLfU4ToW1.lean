/-
  LIFT, part U4: a new variable whose cells are stored one by one.
-/
import Derived.Test.YtcaiammecilkeaaLfU11ToU3
import Derived.Test.YtcaiammecilkeaaLfG1
import Derived.Test.YtcaiammecilkeaaLfU7ToU10
set_option maxRecDepth 100000
namespace Go.Lf
open Go

theorem New.copy1 {h : Heap} {T : TypeId} {z0 v0 : Value} {K : Nat → Heap → Prop}
    (H : ∀ b h', b = h.size → h'[b]? = some (.cells #[v0] T (0, 0)) → Ext h h' → h'.size = h.size + 1 → K b h') :
    New h (.cells #[z0] T) fun b h1 => Store h1 ⟨b, 0, none⟩ v0 fun h2 => K b h2 := by
  refine New.mk fun h1 _ hb1 x1 hs1 => ?_
  refine Store.mk hb1 (by simp) fun h2 hb2 m2 hs2 => ?_
  refine H _ _ rfl (by simpa using hb2) ?_ (by omega)
  have m := m2
  exact ⟨by omega, fun b hlt _ => (m.get b (by omega) (by omega)).trans (x1.get b hlt (by simp))⟩
theorem New.copy2 {h : Heap} {T : TypeId} {z0 z1 v0 v1 : Value} {K : Nat → Heap → Prop}
    (H : ∀ b h', b = h.size → h'[b]? = some (.cells #[v0, v1] T (0, 0)) → Ext h h' → h'.size = h.size + 1 → K b h') :
    New h (.cells #[z0, z1] T) fun b h1 => Store h1 ⟨b, 0, none⟩ v0 fun h2 => Store h2 ((⟨b, 0, none⟩ : Addr).add 1) v1 fun h3 => K b h3 := by
  refine New.mk fun h1 _ hb1 x1 hs1 => ?_
  simp only [add_mk, Nat.zero_add]
  refine Store.mk hb1 (by simp) fun h2 hb2 m2 hs2 => ?_
  refine Store.mk hb2 (by simp) fun h3 hb3 m3 hs3 => ?_
  refine H _ _ rfl (by simpa using hb3) ?_ (by omega)
  have m := (m2.trans m3)
  exact ⟨by omega, fun b hlt _ => (m.get b (by omega) (by omega)).trans (x1.get b hlt (by simp))⟩
theorem New.copy3 {h : Heap} {T : TypeId} {z0 z1 z2 v0 v1 v2 : Value} {K : Nat → Heap → Prop}
    (H : ∀ b h', b = h.size → h'[b]? = some (.cells #[v0, v1, v2] T (0, 0)) → Ext h h' → h'.size = h.size + 1 → K b h') :
    New h (.cells #[z0, z1, z2] T) fun b h1 => Store h1 ⟨b, 0, none⟩ v0 fun h2 => Store h2 ((⟨b, 0, none⟩ : Addr).add 1) v1 fun h3 => Store h3 ((⟨b, 0, none⟩ : Addr).add 2) v2 fun h4 => K b h4 := by
  refine New.mk fun h1 _ hb1 x1 hs1 => ?_
  simp only [add_mk, Nat.zero_add]
  refine Store.mk hb1 (by simp) fun h2 hb2 m2 hs2 => ?_
  refine Store.mk hb2 (by simp) fun h3 hb3 m3 hs3 => ?_
  refine Store.mk hb3 (by simp) fun h4 hb4 m4 hs4 => ?_
  refine H _ _ rfl (by simpa using hb4) ?_ (by omega)
  have m := ((m2.trans m3).trans m4)
  exact ⟨by omega, fun b hlt _ => (m.get b (by omega) (by omega)).trans (x1.get b hlt (by simp))⟩
theorem New.copy4 {h : Heap} {T : TypeId} {z0 z1 z2 z3 v0 v1 v2 v3 : Value} {K : Nat → Heap → Prop}
    (H : ∀ b h', b = h.size → h'[b]? = some (.cells #[v0, v1, v2, v3] T (0, 0)) → Ext h h' → h'.size = h.size + 1 → K b h') :
    New h (.cells #[z0, z1, z2, z3] T) fun b h1 => Store h1 ⟨b, 0, none⟩ v0 fun h2 => Store h2 ((⟨b, 0, none⟩ : Addr).add 1) v1 fun h3 => Store h3 ((⟨b, 0, none⟩ : Addr).add 2) v2 fun h4 => Store h4 ((⟨b, 0, none⟩ : Addr).add 3) v3 fun h5 => K b h5 := by
  refine New.mk fun h1 _ hb1 x1 hs1 => ?_
  simp only [add_mk, Nat.zero_add]
  refine Store.mk hb1 (by simp) fun h2 hb2 m2 hs2 => ?_
  refine Store.mk hb2 (by simp) fun h3 hb3 m3 hs3 => ?_
  refine Store.mk hb3 (by simp) fun h4 hb4 m4 hs4 => ?_
  refine Store.mk hb4 (by simp) fun h5 hb5 m5 hs5 => ?_
  refine H _ _ rfl (by simpa using hb5) ?_ (by omega)
  have m := (((m2.trans m3).trans m4).trans m5)
  exact ⟨by omega, fun b hlt _ => (m.get b (by omega) (by omega)).trans (x1.get b hlt (by simp))⟩
theorem New.copy5 {h : Heap} {T : TypeId} {z0 z1 z2 z3 z4 v0 v1 v2 v3 v4 : Value} {K : Nat → Heap → Prop}
    (H : ∀ b h', b = h.size → h'[b]? = some (.cells #[v0, v1, v2, v3, v4] T (0, 0)) → Ext h h' → h'.size = h.size + 1 → K b h') :
    New h (.cells #[z0, z1, z2, z3, z4] T) fun b h1 => Store h1 ⟨b, 0, none⟩ v0 fun h2 => Store h2 ((⟨b, 0, none⟩ : Addr).add 1) v1 fun h3 => Store h3 ((⟨b, 0, none⟩ : Addr).add 2) v2 fun h4 => Store h4 ((⟨b, 0, none⟩ : Addr).add 3) v3 fun h5 => Store h5 ((⟨b, 0, none⟩ : Addr).add 4) v4 fun h6 => K b h6 := by
  refine New.mk fun h1 _ hb1 x1 hs1 => ?_
  simp only [add_mk, Nat.zero_add]
  refine Store.mk hb1 (by simp) fun h2 hb2 m2 hs2 => ?_
  refine Store.mk hb2 (by simp) fun h3 hb3 m3 hs3 => ?_
  refine Store.mk hb3 (by simp) fun h4 hb4 m4 hs4 => ?_
  refine Store.mk hb4 (by simp) fun h5 hb5 m5 hs5 => ?_
  refine Store.mk hb5 (by simp) fun h6 hb6 m6 hs6 => ?_
  refine H _ _ rfl (by simpa using hb6) ?_ (by omega)
  have m := ((((m2.trans m3).trans m4).trans m5).trans m6)
  exact ⟨by omega, fun b hlt _ => (m.get b (by omega) (by omega)).trans (x1.get b hlt (by simp))⟩
theorem New.copy6 {h : Heap} {T : TypeId} {z0 z1 z2 z3 z4 z5 v0 v1 v2 v3 v4 v5 : Value} {K : Nat → Heap → Prop}
    (H : ∀ b h', b = h.size → h'[b]? = some (.cells #[v0, v1, v2, v3, v4, v5] T (0, 0)) → Ext h h' → h'.size = h.size + 1 → K b h') :
    New h (.cells #[z0, z1, z2, z3, z4, z5] T) fun b h1 => Store h1 ⟨b, 0, none⟩ v0 fun h2 => Store h2 ((⟨b, 0, none⟩ : Addr).add 1) v1 fun h3 => Store h3 ((⟨b, 0, none⟩ : Addr).add 2) v2 fun h4 => Store h4 ((⟨b, 0, none⟩ : Addr).add 3) v3 fun h5 => Store h5 ((⟨b, 0, none⟩ : Addr).add 4) v4 fun h6 => Store h6 ((⟨b, 0, none⟩ : Addr).add 5) v5 fun h7 => K b h7 := by
  refine New.mk fun h1 _ hb1 x1 hs1 => ?_
  simp only [add_mk, Nat.zero_add]
  refine Store.mk hb1 (by simp) fun h2 hb2 m2 hs2 => ?_
  refine Store.mk hb2 (by simp) fun h3 hb3 m3 hs3 => ?_
  refine Store.mk hb3 (by simp) fun h4 hb4 m4 hs4 => ?_
  refine Store.mk hb4 (by simp) fun h5 hb5 m5 hs5 => ?_
  refine Store.mk hb5 (by simp) fun h6 hb6 m6 hs6 => ?_
  refine Store.mk hb6 (by simp) fun h7 hb7 m7 hs7 => ?_
  refine H _ _ rfl (by simpa using hb7) ?_ (by omega)
  have m := (((((m2.trans m3).trans m4).trans m5).trans m6).trans m7)
  exact ⟨by omega, fun b hlt _ => (m.get b (by omega) (by omega)).trans (x1.get b hlt (by simp))⟩
theorem New.copy7 {h : Heap} {T : TypeId} {z0 z1 z2 z3 z4 z5 z6 v0 v1 v2 v3 v4 v5 v6 : Value} {K : Nat → Heap → Prop}
    (H : ∀ b h', b = h.size → h'[b]? = some (.cells #[v0, v1, v2, v3, v4, v5, v6] T (0, 0)) → Ext h h' → h'.size = h.size + 1 → K b h') :
    New h (.cells #[z0, z1, z2, z3, z4, z5, z6] T) fun b h1 => Store h1 ⟨b, 0, none⟩ v0 fun h2 => Store h2 ((⟨b, 0, none⟩ : Addr).add 1) v1 fun h3 => Store h3 ((⟨b, 0, none⟩ : Addr).add 2) v2 fun h4 => Store h4 ((⟨b, 0, none⟩ : Addr).add 3) v3 fun h5 => Store h5 ((⟨b, 0, none⟩ : Addr).add 4) v4 fun h6 => Store h6 ((⟨b, 0, none⟩ : Addr).add 5) v5 fun h7 => Store h7 ((⟨b, 0, none⟩ : Addr).add 6) v6 fun h8 => K b h8 := by
  refine New.mk fun h1 _ hb1 x1 hs1 => ?_
  simp only [add_mk, Nat.zero_add]
  refine Store.mk hb1 (by simp) fun h2 hb2 m2 hs2 => ?_
  refine Store.mk hb2 (by simp) fun h3 hb3 m3 hs3 => ?_
  refine Store.mk hb3 (by simp) fun h4 hb4 m4 hs4 => ?_
  refine Store.mk hb4 (by simp) fun h5 hb5 m5 hs5 => ?_
  refine Store.mk hb5 (by simp) fun h6 hb6 m6 hs6 => ?_
  refine Store.mk hb6 (by simp) fun h7 hb7 m7 hs7 => ?_
  refine Store.mk hb7 (by simp) fun h8 hb8 m8 hs8 => ?_
  refine H _ _ rfl (by simpa using hb8) ?_ (by omega)
  have m := ((((((m2.trans m3).trans m4).trans m5).trans m6).trans m7).trans m8)
  exact ⟨by omega, fun b hlt _ => (m.get b (by omega) (by omega)).trans (x1.get b hlt (by simp))⟩
theorem New.copy8 {h : Heap} {T : TypeId} {z0 z1 z2 z3 z4 z5 z6 z7 v0 v1 v2 v3 v4 v5 v6 v7 : Value} {K : Nat → Heap → Prop}
    (H : ∀ b h', b = h.size → h'[b]? = some (.cells #[v0, v1, v2, v3, v4, v5, v6, v7] T (0, 0)) → Ext h h' → h'.size = h.size + 1 → K b h') :
    New h (.cells #[z0, z1, z2, z3, z4, z5, z6, z7] T) fun b h1 => Store h1 ⟨b, 0, none⟩ v0 fun h2 => Store h2 ((⟨b, 0, none⟩ : Addr).add 1) v1 fun h3 => Store h3 ((⟨b, 0, none⟩ : Addr).add 2) v2 fun h4 => Store h4 ((⟨b, 0, none⟩ : Addr).add 3) v3 fun h5 => Store h5 ((⟨b, 0, none⟩ : Addr).add 4) v4 fun h6 => Store h6 ((⟨b, 0, none⟩ : Addr).add 5) v5 fun h7 => Store h7 ((⟨b, 0, none⟩ : Addr).add 6) v6 fun h8 => Store h8 ((⟨b, 0, none⟩ : Addr).add 7) v7 fun h9 => K b h9 := by
  refine New.mk fun h1 _ hb1 x1 hs1 => ?_
  simp only [add_mk, Nat.zero_add]
  refine Store.mk hb1 (by simp) fun h2 hb2 m2 hs2 => ?_
  refine Store.mk hb2 (by simp) fun h3 hb3 m3 hs3 => ?_
  refine Store.mk hb3 (by simp) fun h4 hb4 m4 hs4 => ?_
  refine Store.mk hb4 (by simp) fun h5 hb5 m5 hs5 => ?_
  refine Store.mk hb5 (by simp) fun h6 hb6 m6 hs6 => ?_
  refine Store.mk hb6 (by simp) fun h7 hb7 m7 hs7 => ?_
  refine Store.mk hb7 (by simp) fun h8 hb8 m8 hs8 => ?_
  refine Store.mk hb8 (by simp) fun h9 hb9 m9 hs9 => ?_
  refine H _ _ rfl (by simpa using hb9) ?_ (by omega)
  have m := (((((((m2.trans m3).trans m4).trans m5).trans m6).trans m7).trans m8).trans m9)
  exact ⟨by omega, fun b hlt _ => (m.get b (by omega) (by omega)).trans (x1.get b hlt (by simp))⟩
theorem New.copy9 {h : Heap} {T : TypeId} {z0 z1 z2 z3 z4 z5 z6 z7 z8 v0 v1 v2 v3 v4 v5 v6 v7 v8 : Value} {K : Nat → Heap → Prop}
    (H : ∀ b h', b = h.size → h'[b]? = some (.cells #[v0, v1, v2, v3, v4, v5, v6, v7, v8] T (0, 0)) → Ext h h' → h'.size = h.size + 1 → K b h') :
    New h (.cells #[z0, z1, z2, z3, z4, z5, z6, z7, z8] T) fun b h1 => Store h1 ⟨b, 0, none⟩ v0 fun h2 => Store h2 ((⟨b, 0, none⟩ : Addr).add 1) v1 fun h3 => Store h3 ((⟨b, 0, none⟩ : Addr).add 2) v2 fun h4 => Store h4 ((⟨b, 0, none⟩ : Addr).add 3) v3 fun h5 => Store h5 ((⟨b, 0, none⟩ : Addr).add 4) v4 fun h6 => Store h6 ((⟨b, 0, none⟩ : Addr).add 5) v5 fun h7 => Store h7 ((⟨b, 0, none⟩ : Addr).add 6) v6 fun h8 => Store h8 ((⟨b, 0, none⟩ : Addr).add 7) v7 fun h9 => Store h9 ((⟨b, 0, none⟩ : Addr).add 8) v8 fun h10 => K b h10 := by
  refine New.mk fun h1 _ hb1 x1 hs1 => ?_
  simp only [add_mk, Nat.zero_add]
  refine Store.mk hb1 (by simp) fun h2 hb2 m2 hs2 => ?_
  refine Store.mk hb2 (by simp) fun h3 hb3 m3 hs3 => ?_
  refine Store.mk hb3 (by simp) fun h4 hb4 m4 hs4 => ?_
  refine Store.mk hb4 (by simp) fun h5 hb5 m5 hs5 => ?_
  refine Store.mk hb5 (by simp) fun h6 hb6 m6 hs6 => ?_
  refine Store.mk hb6 (by simp) fun h7 hb7 m7 hs7 => ?_
  refine Store.mk hb7 (by simp) fun h8 hb8 m8 hs8 => ?_
  refine Store.mk hb8 (by simp) fun h9 hb9 m9 hs9 => ?_
  refine Store.mk hb9 (by simp) fun h10 hb10 m10 hs10 => ?_
  refine H _ _ rfl (by simpa using hb10) ?_ (by omega)
  have m := ((((((((m2.trans m3).trans m4).trans m5).trans m6).trans m7).trans m8).trans m9).trans m10)
  exact ⟨by omega, fun b hlt _ => (m.get b (by omega) (by omega)).trans (x1.get b hlt (by simp))⟩
theorem New.copy10 {h : Heap} {T : TypeId} {z0 z1 z2 z3 z4 z5 z6 z7 z8 z9 v0 v1 v2 v3 v4 v5 v6 v7 v8 v9 : Value} {K : Nat → Heap → Prop}
    (H : ∀ b h', b = h.size → h'[b]? = some (.cells #[v0, v1, v2, v3, v4, v5, v6, v7, v8, v9] T (0, 0)) → Ext h h' → h'.size = h.size + 1 → K b h') :
    New h (.cells #[z0, z1, z2, z3, z4, z5, z6, z7, z8, z9] T) fun b h1 => Store h1 ⟨b, 0, none⟩ v0 fun h2 => Store h2 ((⟨b, 0, none⟩ : Addr).add 1) v1 fun h3 => Store h3 ((⟨b, 0, none⟩ : Addr).add 2) v2 fun h4 => Store h4 ((⟨b, 0, none⟩ : Addr).add 3) v3 fun h5 => Store h5 ((⟨b, 0, none⟩ : Addr).add 4) v4 fun h6 => Store h6 ((⟨b, 0, none⟩ : Addr).add 5) v5 fun h7 => Store h7 ((⟨b, 0, none⟩ : Addr).add 6) v6 fun h8 => Store h8 ((⟨b, 0, none⟩ : Addr).add 7) v7 fun h9 => Store h9 ((⟨b, 0, none⟩ : Addr).add 8) v8 fun h10 => Store h10 ((⟨b, 0, none⟩ : Addr).add 9) v9 fun h11 => K b h11 := by
  refine New.mk fun h1 _ hb1 x1 hs1 => ?_
  simp only [add_mk, Nat.zero_add]
  refine Store.mk hb1 (by simp) fun h2 hb2 m2 hs2 => ?_
  refine Store.mk hb2 (by simp) fun h3 hb3 m3 hs3 => ?_
  refine Store.mk hb3 (by simp) fun h4 hb4 m4 hs4 => ?_
  refine Store.mk hb4 (by simp) fun h5 hb5 m5 hs5 => ?_
  refine Store.mk hb5 (by simp) fun h6 hb6 m6 hs6 => ?_
  refine Store.mk hb6 (by simp) fun h7 hb7 m7 hs7 => ?_
  refine Store.mk hb7 (by simp) fun h8 hb8 m8 hs8 => ?_
  refine Store.mk hb8 (by simp) fun h9 hb9 m9 hs9 => ?_
  refine Store.mk hb9 (by simp) fun h10 hb10 m10 hs10 => ?_
  refine Store.mk hb10 (by simp) fun h11 hb11 m11 hs11 => ?_
  refine H _ _ rfl (by simpa using hb11) ?_ (by omega)
  have m := (((((((((m2.trans m3).trans m4).trans m5).trans m6).trans m7).trans m8).trans m9).trans m10).trans m11)
  exact ⟨by omega, fun b hlt _ => (m.get b (by omega) (by omega)).trans (x1.get b hlt (by simp))⟩
theorem New.copy11 {h : Heap} {T : TypeId} {z0 z1 z2 z3 z4 z5 z6 z7 z8 z9 z10 v0 v1 v2 v3 v4 v5 v6 v7 v8 v9 v10 : Value} {K : Nat → Heap → Prop}
    (H : ∀ b h', b = h.size → h'[b]? = some (.cells #[v0, v1, v2, v3, v4, v5, v6, v7, v8, v9, v10] T (0, 0)) → Ext h h' → h'.size = h.size + 1 → K b h') :
    New h (.cells #[z0, z1, z2, z3, z4, z5, z6, z7, z8, z9, z10] T) fun b h1 => Store h1 ⟨b, 0, none⟩ v0 fun h2 => Store h2 ((⟨b, 0, none⟩ : Addr).add 1) v1 fun h3 => Store h3 ((⟨b, 0, none⟩ : Addr).add 2) v2 fun h4 => Store h4 ((⟨b, 0, none⟩ : Addr).add 3) v3 fun h5 => Store h5 ((⟨b, 0, none⟩ : Addr).add 4) v4 fun h6 => Store h6 ((⟨b, 0, none⟩ : Addr).add 5) v5 fun h7 => Store h7 ((⟨b, 0, none⟩ : Addr).add 6) v6 fun h8 => Store h8 ((⟨b, 0, none⟩ : Addr).add 7) v7 fun h9 => Store h9 ((⟨b, 0, none⟩ : Addr).add 8) v8 fun h10 => Store h10 ((⟨b, 0, none⟩ : Addr).add 9) v9 fun h11 => Store h11 ((⟨b, 0, none⟩ : Addr).add 10) v10 fun h12 => K b h12 := by
  refine New.mk fun h1 _ hb1 x1 hs1 => ?_
  simp only [add_mk, Nat.zero_add]
  refine Store.mk hb1 (by simp) fun h2 hb2 m2 hs2 => ?_
  refine Store.mk hb2 (by simp) fun h3 hb3 m3 hs3 => ?_
  refine Store.mk hb3 (by simp) fun h4 hb4 m4 hs4 => ?_
  refine Store.mk hb4 (by simp) fun h5 hb5 m5 hs5 => ?_
  refine Store.mk hb5 (by simp) fun h6 hb6 m6 hs6 => ?_
  refine Store.mk hb6 (by simp) fun h7 hb7 m7 hs7 => ?_
  refine Store.mk hb7 (by simp) fun h8 hb8 m8 hs8 => ?_
  refine Store.mk hb8 (by simp) fun h9 hb9 m9 hs9 => ?_
  refine Store.mk hb9 (by simp) fun h10 hb10 m10 hs10 => ?_
  refine Store.mk hb10 (by simp) fun h11 hb11 m11 hs11 => ?_
  refine Store.mk hb11 (by simp) fun h12 hb12 m12 hs12 => ?_
  refine H _ _ rfl (by simpa using hb12) ?_ (by omega)
  have m := ((((((((((m2.trans m3).trans m4).trans m5).trans m6).trans m7).trans m8).trans m9).trans m10).trans m11).trans m12)
  exact ⟨by omega, fun b hlt _ => (m.get b (by omega) (by omega)).trans (x1.get b hlt (by simp))⟩
theorem New.copy12 {h : Heap} {T : TypeId} {z0 z1 z2 z3 z4 z5 z6 z7 z8 z9 z10 z11 v0 v1 v2 v3 v4 v5 v6 v7 v8 v9 v10 v11 : Value} {K : Nat → Heap → Prop}
    (H : ∀ b h', b = h.size → h'[b]? = some (.cells #[v0, v1, v2, v3, v4, v5, v6, v7, v8, v9, v10, v11] T (0, 0)) → Ext h h' → h'.size = h.size + 1 → K b h') :
    New h (.cells #[z0, z1, z2, z3, z4, z5, z6, z7, z8, z9, z10, z11] T) fun b h1 => Store h1 ⟨b, 0, none⟩ v0 fun h2 => Store h2 ((⟨b, 0, none⟩ : Addr).add 1) v1 fun h3 => Store h3 ((⟨b, 0, none⟩ : Addr).add 2) v2 fun h4 => Store h4 ((⟨b, 0, none⟩ : Addr).add 3) v3 fun h5 => Store h5 ((⟨b, 0, none⟩ : Addr).add 4) v4 fun h6 => Store h6 ((⟨b, 0, none⟩ : Addr).add 5) v5 fun h7 => Store h7 ((⟨b, 0, none⟩ : Addr).add 6) v6 fun h8 => Store h8 ((⟨b, 0, none⟩ : Addr).add 7) v7 fun h9 => Store h9 ((⟨b, 0, none⟩ : Addr).add 8) v8 fun h10 => Store h10 ((⟨b, 0, none⟩ : Addr).add 9) v9 fun h11 => Store h11 ((⟨b, 0, none⟩ : Addr).add 10) v10 fun h12 => Store h12 ((⟨b, 0, none⟩ : Addr).add 11) v11 fun h13 => K b h13 := by
  refine New.mk fun h1 _ hb1 x1 hs1 => ?_
  simp only [add_mk, Nat.zero_add]
  refine Store.mk hb1 (by simp) fun h2 hb2 m2 hs2 => ?_
  refine Store.mk hb2 (by simp) fun h3 hb3 m3 hs3 => ?_
  refine Store.mk hb3 (by simp) fun h4 hb4 m4 hs4 => ?_
  refine Store.mk hb4 (by simp) fun h5 hb5 m5 hs5 => ?_
  refine Store.mk hb5 (by simp) fun h6 hb6 m6 hs6 => ?_
  refine Store.mk hb6 (by simp) fun h7 hb7 m7 hs7 => ?_
  refine Store.mk hb7 (by simp) fun h8 hb8 m8 hs8 => ?_
  refine Store.mk hb8 (by simp) fun h9 hb9 m9 hs9 => ?_
  refine Store.mk hb9 (by simp) fun h10 hb10 m10 hs10 => ?_
  refine Store.mk hb10 (by simp) fun h11 hb11 m11 hs11 => ?_
  refine Store.mk hb11 (by simp) fun h12 hb12 m12 hs12 => ?_
  refine Store.mk hb12 (by simp) fun h13 hb13 m13 hs13 => ?_
  refine H _ _ rfl (by simpa using hb13) ?_ (by omega)
  have m := (((((((((((m2.trans m3).trans m4).trans m5).trans m6).trans m7).trans m8).trans m9).trans m10).trans m11).trans m12).trans m13)
  exact ⟨by omega, fun b hlt _ => (m.get b (by omega) (by omega)).trans (x1.get b hlt (by simp))⟩
end Go.Lf

/-
  Contracts: numbers and texts as bytes (chapter 1), and what reads them.
-/
set_option maxRecDepth 100000
set_option linter.unusedVariables false
set_option linter.unusedSimpArgs false
namespace Go.Lf.G
open Go

theorem P_str : P.underlying t_string = some .string := by kernel_rfl
theorem P_u8 : P.underlying t_uint8 = some (.int .u8) := by kernel_rfl
theorem P_slu8 : P.underlying t_sl_uint8 = some (.slice t_uint8) := by kernel_rfl
theorem app_u8 : appB P t_sl_uint8 t_uint8 ByteE.w 1 = true := by kernel_rfl

theorem vPut_ok {A : Amb} {h : Heap} {n : Nat} {R : Value → Heap → Prop} (hn : n < 18446744073709551616) (H : ∀ h', Ext h h' → R (.string (strL (putV n))) h') : HCalls A P f_vary_Put #[.int .u64 (n : Int)] h R := by
  refine ok_vary_Put ?_
  unfold F_vary_Put
  have hl10 := putV_len10 hn
  refine Loop.rule (fun m x hh => ∃ (k : Nat) (s : Sl) (d : List UInt8), x = ((k : Int), s, ()) ∧ Own ByteE t_uint8 hh s d ∧ Ext h hh ∧ (∀ b, s.blk = some b → h.size ≤ b) ∧ putV n = d ++ putV k ∧ m = k) ?_
    ⟨n, ⟨none, 0, 0⟩, [], rfl, Own.nil, Mod.refl, fun b hb => by simp [Sl.blk] at hb, rfl, rfl⟩
  rintro K m _ hh ⟨k, s, d, rfl, o, x, hs, e, hm⟩ hK
  have hd : d.length ≤ 10 := by rw [e] at hl10; simp at hl10; omega
  refine PIf.intro (fun hq => ?_) (fun hq => ?_)
  · have hk : ¬ k < 128 := by simp at hq; omega
    refine New.append1 (E := ByteE) (x := byteN (k % 128 + 128)) (s := s) (l := d) (by dsimp only [ByteE]; rw [put_byte]) app_u8 o (by simp; omega) (by simp [maxLen]; omega) fun s' h' o' m' hb' hn' => ?_
    refine hK (k / 128) _ _ (by omega) ⟨k / 128, s', d ++ [byteN (k % 128 + 128)], ?_, o', x.more m' hs, fun b hb => ?_, ?_, rfl⟩
    · dsimp only
      rw [fdiv_nat k 7]
    · rcases hb' b hb with h1 | h1
      · exact hs b h1
      · have := x.size; omega
    · rw [e, putV_big hk]; simp
  · have hk : k < 128 := by simp at hq; omega
    refine New.append1 (E := ByteE) (x := byteN k) (s := s) (l := d) (by dsimp only [ByteE]; rw [byteN_nat (show k < 256 by omega), wrap_u8, Nat.mod_eq_of_lt (show k < 256 by omega)]) app_u8 o (by simp; omega) (by simp [maxLen]; omega) fun s' h' o' m' hb' hn' => ?_
    refine bytes_str P_slu8 P_u8 P_str o'.view ⟨_, rfl, ?_⟩
    have e2 : d ++ [byteN k] = putV n := by rw [e, putV_small hk]
    rw [e2]
    exact H _ (x.more m' hs)

theorem ite_lt10 (n : Nat) : (if (10 : Int) < (n : Int) then (10 : Int) else (n : Int)) = ((min n 10 : Nat) : Int) := by split <;> omega

theorem vGet_ok {A : Amb} {h : Heap} {s : ByteArray} {R : Value → Heap → Prop} (hs : s.size ≤ 1099511627776)
    (H0 : getV 0 0 s.data.toList = none → R (.tuple #[.int .u64 0, .string ⟨#[]⟩, .bool false]) h)
    (H1 : ∀ n t, getV 0 0 s.data.toList = some (n, t) → R (.tuple #[.int .u64 (n : Int), .string (strL t), .bool true]) h) : HCalls A P f_vary_Get #[.string s] h R := by
  refine ok_vary_Get ?_
  unfold F_vary_Get
  have hls : s.data.toList.length = s.size := by rw [Array.length_toList]; rfl
  refine Loop.rule (fun m x hh => ∃ (i a : Nat), x = ((a : Int), (i : Int), ()) ∧ hh = h ∧ i ≤ s.size ∧ i ≤ 10 ∧ a < 128 ^ i ∧ getV 0 0 s.data.toList = getV i a (s.data.toList.drop i) ∧ m = 10 - i) ?_
    ⟨0, 0, rfl, rfl, by omega, by omega, by simp, rfl, rfl⟩
  rintro K m _ hh ⟨i, a, rfl, e, hi, h10, ha, hg, hm⟩ hK
  subst hh
  dsimp only
  rw [ite_lt10]
  refine PIf.intro (fun hq => ?_) (fun hq => ?_)
  · have hi1 : i < s.size ∧ i < 10 := by simp at hq; omega
    have hil : i < s.data.toList.length := by omega
    refine ⟨⟨by omega, by omega⟩, ?_⟩
    obtain ⟨c, hc⟩ : ∃ c, s.data.toList[i]? = some c := ⟨_, List.getElem?_eq_getElem hil⟩
    have hdrop : s.data.toList.drop i = c :: s.data.toList.drop (i + 1) := by
      rw [List.drop_eq_getElem_cons hil]
      rw [List.getElem?_eq_getElem hil] at hc
      rw [Option.some.inj hc]
    have hc256 : c.toNat < 256 := c.toNat_lt
    rw [sAt_nat hc]
    have hbad : ((i = 9 ∧ 1 < c.toNat) ∨ (0 < i ∧ c.toNat = 0)) → getV 0 0 s.data.toList = none := fun hb => by
      rw [hg, hdrop, getV, if_pos (.inr hb)]
    have hgo : ¬ ((i = 9 ∧ 1 < c.toNat) ∨ (0 < i ∧ c.toNat = 0)) → getV 0 0 s.data.toList = if c.toNat < 128 then some (a + c.toNat * 128 ^ i, s.data.toList.drop (i + 1)) else getV (i + 1) (a + c.toNat % 128 * 128 ^ i) (s.data.toList.drop (i + 1)) := fun hb => by
      rw [hg, hdrop, getV, if_neg (fun h => h.elim (by omega) hb)]
    refine Join.mk fun K1 hK1 => ?_
    have key : ∀ (b : Bool), (b = true ↔ ((i = 9 ∧ 1 < c.toNat) ∨ (0 < i ∧ c.toNat = 0))) → K1 (b, ()) h := fun b hb => by
      refine hK1 _ _ ?_
      refine PIf.intro (fun hb1 => H0 (hbad (hb.1 hb1))) (fun hb0 => ?_)
      have hnb : ¬ ((i = 9 ∧ 1 < c.toNat) ∨ (0 < i ∧ c.toNat = 0)) := fun h => by rw [hb.2 h] at hb0; cases hb0
      have hg2 := hgo hnb
      have e7 : IntKind.wrap .i64 ((7 : Int) * (i : Int)) = ((7 * i : Nat) : Int) := by rw [show (7 : Int) * (i : Int) = ((7 * i : Nat) : Int) by simp]; exact wrap_nat (by omega)
      have e127 : bAnd .u8 (c.toNat : Int) (127 : Int) = ((c.toNat % 128 : Nat) : Int) := by
        have := and_u8 (a := c.toNat) (b := 127) hc256 (by decide)
        rw [and127 _ hc256] at this
        exact this
      have ew : IntKind.wrap .u64 ((c.toNat % 128 : Nat) : Int) = ((c.toNat % 128 : Nat) : Int) := by rw [wrap_u64, Nat.mod_eq_of_lt (by omega)]
      rw [e7, e127, ew, shift7 (by omega) (Nat.mod_lt _ (by decide)), step_or (by omega) ha (Nat.mod_lt _ (by decide)), wrap_succ (by omega)]
      have h9 := pow128_le (show i ≤ 9 by omega)
      have e9 : (128 : Nat) ^ 9 = 9223372036854775808 := by decide
      have hmod : c.toNat % 128 * 128 ^ i % 18446744073709551616 = c.toNat % 128 * 128 ^ i := by
        refine Nat.mod_eq_of_lt ?_
        by_cases hi9 : i = 9
        · subst hi9
          have : c.toNat ≤ 1 := by omega
          rw [e9]; omega
        · have h8 := pow128_le (show i ≤ 8 by omega)
          have e8 : (128 : Nat) ^ 8 = 72057594037927936 := by decide
          have : c.toNat % 128 * 128 ^ i ≤ 127 * 128 ^ i := Nat.mul_le_mul_right _ (by omega)
          omega
      rw [hmod]
      refine ⟨by omega, ?_⟩
      refine PIf.intro (fun hq => ?_) (fun hq => ?_)
      · have hlow : c.toNat < 128 := by simp at hq; omega
        rw [if_pos hlow] at hg2
        refine ⟨⟨by omega, by omega⟩, ?_⟩
        have := H1 _ _ hg2
        rw [Nat.mod_eq_of_lt hlow]
        have e : s.extract ((i + 1 : Nat) : Int).toNat s.size = strL (s.data.toList.drop (i + 1)) := ext_drop _ _
        rw [e]
        exact this
      · have hlow : ¬ c.toNat < 128 := by simp at hq; omega
        rw [if_neg hlow] at hg2
        refine hK (10 - (i + 1)) _ _ (by omega) ⟨i + 1, a + c.toNat % 128 * 128 ^ i, rfl, rfl, by omega, by omega, ?_, hg2, rfl⟩
        have : (c.toNat % 128 + 1) * 128 ^ i ≤ 128 * 128 ^ i := Nat.mul_le_mul_right _ (by omega)
        rw [Nat.add_mul] at this
        rw [Nat.pow_succ, Nat.mul_comm (128 ^ i)]
        omega
    refine PIf.intro (fun hq => ?_) (fun hq => ?_)
    · have hi9 : i = 9 := by simp at hq; omega
      refine PIf.intro (fun hq2 => key _ ⟨fun _ => .inl ⟨hi9, by simp at hq2; omega⟩, fun _ => rfl⟩) (fun hq2 => ?_)
      refine PIf.intro (fun hq3 => key _ ⟨fun hz => .inr ⟨by omega, by simp at hz; omega⟩, fun hz => by simp at hq2 ⊢; omega⟩) (fun hq3 => ?_)
      simp at hq3; omega
    · have hi9 : i ≠ 9 := by simp at hq; omega
      refine PIf.intro (fun hq3 => key _ ⟨fun hz => .inr ⟨by simp at hq3; omega, by simp at hz; omega⟩, fun hz => (by simp; omega)⟩) (fun hq3 => key _ ⟨(fun hz => (by cases hz)), fun hz => (by simp at hq3; omega)⟩)
  · have hi1 : s.size = i ∨ i = 10 := by simp at hq; omega
    refine H0 ?_
    rw [hg]
    rcases hi1 with h1 | h1
    · rw [List.drop_of_length_le (by omega)]; rfl
    · cases hd : s.data.toList.drop i with
      | nil => rfl
      | cons c t => rw [getV, if_pos (.inl (by omega))]
end Go.Lf.G

/-
  Contracts: readers of bytes (chapter 1), sums and frames (chapter 2).
-/
set_option maxRecDepth 100000
set_option linter.unusedVariables false
set_option linter.unusedSimpArgs false
namespace Go.Lf.G
open Go

theorem atI {a : Addr} {K : Addr → Prop} (h : K a) : At (some a) K := h
theorem Store.mk1 {h : Heap} {b j : Nat} {v : Value} {cs : Array Value} {T : TypeId} {K : Heap → Prop} (hb : h[b]? = some (.cells cs T (0, 0))) (hj : j < cs.size)
    (H : ∀ h', h'[b]? = some (.cells (cs.setIfInBounds j v) T (0, 0)) → Mod (· = b) h h' → h'.size = h.size → K h') : Store h ((⟨b, 0, none⟩ : Addr).add j) v K := by
  rw [add_mk, Nat.zero_add]; exact Store.mk hb hj H
theorem max_i64 : IntKind.max .i64 = 9223372036854775807 := by simp [IntKind.max, IntKind.bits, IntKind.signed]
theorem wrap_i64 {n : Int} (h1 : -9223372036854775808 ≤ n) (h2 : n ≤ 9223372036854775807) : IntKind.wrap .i64 n = n := by
  simp only [IntKind.wrap, IntKind.bits, IntKind.signed]
  simp
  omega
theorem wrap_u64n {n : Nat} (h : n < 18446744073709551616) : IntKind.wrap .u64 (n : Int) = (n : Int) := by rw [wrap_u64, Nat.mod_eq_of_lt h]
abbrev ptrV (b : Nat) : Value := .pointer (some ⟨b, 0, none⟩)

/-- a reader in memory -/
def RdAt (h : Heap) (b : Nat) (r : Rd) : Prop := h[b]? = some (.cells #[.string (strL r.rest), .bool r.bad] t_vary_Reader (0, 0))
theorem strL_nil : strL [] = ⟨#[]⟩ := rfl
theorem strL_size' (l : List UInt8) : (strL l).size = l.length := strL_size l
theorem strL_take (l : List UInt8) (n : Nat) : (strL l).extract 0 n = strL (l.take n) := by rw [ext_take, strL_list]
theorem strL_drop (l : List UInt8) (n : Nat) : (strL l).extract n (strL l).size = strL (l.drop n) := by rw [ext_drop, strL_list]
theorem strL_mid (l : List UInt8) (i j : Nat) : (strL l).extract i j = strL ((l.take j).drop i) := by rw [ext_list, strL_list]
theorem strL_app (a b : List UInt8) : strL a ++ strL b = strL (a ++ b) := by
  apply ByteArray.ext
  simp [strL, ByteArray.data_append]

theorem vText_ok {A : Amb} {h : Heap} {l : List UInt8} {R : Value → Heap → Prop} (hl : l.length ≤ 1099511627776) (H : ∀ h', Ext h h' → R (.string (strL (textL l))) h') : HCalls A P f_vary_Text #[.string (strL l)] h R := by
  refine ok_vary_Text ?_
  unfold F_vary_Text
  rw [strL_size, wrap_u64n (by omega)]
  have := putV_len10 (n := l.length) (by omega)
  refine vPut_ok (by omega) fun h1 x1 => ⟨_, rfl, ⟨by rw [strL_size, max_i64]; omega, ?_⟩⟩
  rw [strL_app]
  exact H _ x1
theorem vRead_ok {A : Amb} {h : Heap} {l : List UInt8} {R : Value → Heap → Prop} (H : ∀ h', RdAt h' h.size ⟨l, false⟩ → Ext h h' → R (ptrV h.size) h') : HCalls A P f_vary_Read #[.string (strL l)] h R := by
  refine ok_vary_Read ?_
  unfold F_vary_Read
  exact New.mk fun h1 _ hb x _ => H h1 hb x

theorem vNum_ok {A : Amb} {h : Heap} {b : Nat} {r : Rd} {R : Value → Heap → Prop} (hb : RdAt h b r) (hl : r.rest.length ≤ 1099511627776)
    (H : ∀ h', RdAt h' b (numR r).2 → Mod (· = b) h h' → R (.int .u64 ((numR r).1 : Int)) h') : HCalls A P f_vary_Reader_Num #[ptrV b] h R := by
  refine ok_vary_Reader_Num ?_
  unfold F_vary_Reader_Num
  refine Join.mk fun K hK => PIf.no rfl (atI (LoadB.mk (hget_lit1 hb rfl) (hK _ _ ?_)))
  refine PIf.intro (fun hq => ?_) (fun hq => ?_)
  · have := H h
    rw [numR_bad hq] at this
    exact this hb Mod.refl
  · refine atI (LoadS.mk (hget_lit hb rfl) ?_)
    have hq : r.bad = false := hq
    refine vGet_ok (by rw [strL_size]; exact hl) (fun hn => ⟨_, _, _, rfl, ?_⟩) (fun n t hn => ⟨_, _, _, rfl, ?_⟩)
    all_goals
      rw [strL_list] at hn
      refine atI (Store.mk hb (by simp) fun h1 hb1 m1 hs1 => atI (Store.mk1 hb1 (by simp) fun h2 hb2 m2 hs2 => ?_))
      have := H h2
      simp only [numR, hq, hn] at this
      exact this hb2 (m1.trans m2)

theorem wrap_most {m : Nat} (h : m ≤ 9223372036854775807) : IntKind.wrap .u64 (m : Int) = (m : Int) := wrap_u64n (by omega)
theorem vInt_ok {A : Amb} {h : Heap} {b : Nat} {r : Rd} {most : Nat} {R : Value → Heap → Prop} (hb : RdAt h b r) (hl : r.rest.length ≤ 1099511627776) (hm : most ≤ 9223372036854775807)
    (H : ∀ h', RdAt h' b (intR most r).2 → Mod (· = b) h h' → R (.int .i64 ((intR most r).1 : Int)) h') : HCalls A P f_vary_Reader_Int #[ptrV b, .int .i64 (most : Int)] h R := by
  refine ok_vary_Reader_Int ?_
  unfold F_vary_Reader_Int
  refine vNum_ok hb hl fun h1 hb1 m1 => ⟨_, rfl, ?_⟩
  refine Join.mk fun K hK => PIf.no rfl (atI (LoadB.mk (hget_lit1 hb1 rfl) (hK _ _ ?_)))
  refine PIf.intro (fun hq => ?_) (fun hq => ?_)
  · have := H h1
    have hq : (numR r).2.bad = true := hq
    simp only [intR, hq, if_true] at this
    exact this hb1 m1
  · have hq : (numR r).2.bad = false := hq
    refine Join.mk fun K1 hK1 => PIf.no (by simp) (hK1 _ _ ?_)
    rw [wrap_most hm]
    refine PIf.intro (fun hq2 => ?_) (fun hq2 => ?_)
    · refine atI (Store.mk hb1 (by simp) fun h2 hb2 m2 hs2 => atI (Store.mk1 hb2 (by simp) fun h3 hb3 m3 hs3 => ?_))
      have := H h3
      simp only [intR, hq] at this
      rw [if_neg (by simp), if_pos (by simp at hq2; omega)] at this
      exact this hb3 ((m1.trans m2).trans m3)
    · have := H h1
      simp at hq2
      simp only [intR, hq] at this
      rw [if_neg (by simp), if_neg (by omega)] at this
      rw [wrap_nat (by omega)]
      exact this hb1 m1

theorem vTake_ok {A : Amb} {h : Heap} {b n : Nat} {r : Rd} {R : Value → Heap → Prop} (hb : RdAt h b r)
    (H : ∀ h', RdAt h' b (takeR n r).2 → Mod (· = b) h h' → R (.string (strL (takeR n r).1)) h') : HCalls A P f_vary_Reader_Take #[ptrV b, .int .i64 (n : Int)] h R := by
  refine ok_vary_Reader_Take ?_
  unfold F_vary_Reader_Take
  refine Join.mk fun K hK => PIf.no rfl (atI (LoadB.mk (hget_lit1 hb rfl) (hK _ _ ?_)))
  refine PIf.intro (fun hq => ?_) (fun hq => ?_)
  · have := H h
    have hq : r.bad = true := hq
    simp only [takeR, hq, if_true] at this
    exact this hb Mod.refl
  · have hq : r.bad = false := hq
    refine Join.mk fun K1 hK1 => PIf.no (by simp) (atI (LoadS.mk (hget_lit hb rfl) (hK1 _ _ ?_)))
    rw [strL_size]
    refine PIf.intro (fun hq2 => ?_) (fun hq2 => ?_)
    · refine atI (Store.mk hb (by simp) fun h2 hb2 m2 hs2 => atI (Store.mk1 hb2 (by simp) fun h3 hb3 m3 hs3 => ?_))
      have := H h3
      simp only [takeR, hq] at this
      rw [if_neg (by simp), if_pos (by simp at hq2; omega)] at this
      exact this hb3 (m2.trans m3)
    · simp at hq2
      refine atI (LoadS.mk (hget_lit hb rfl) ⟨⟨by omega, by rw [strL_size]; omega⟩, atI (LoadS.mk (hget_lit hb rfl) ⟨⟨by omega, by rw [strL_size]; omega⟩, atI (Store.mk hb (by simp) fun h2 hb2 m2 hs2 => ?_)⟩)⟩)
      have := H h2
      simp only [takeR, hq] at this
      rw [if_neg (by simp), if_neg (by omega)] at this
      simp only [Int.toNat_natCast, strL_take, strL_drop] at hb2 ⊢
      rw [hq] at hb2
      exact this hb2 m2

theorem vRText_ok {A : Amb} {h : Heap} {b : Nat} {r : Rd} {R : Value → Heap → Prop} (hb : RdAt h b r) (hl : r.rest.length < 1099511627776)
    (H : ∀ h', RdAt h' b (textR r).2 → Mod (· = b) h h' → R (.string (strL (textR r).1)) h') : HCalls A P f_vary_Reader_Text #[ptrV b] h R := by
  refine ok_vary_Reader_Text ?_
  unfold F_vary_Reader_Text
  refine vNum_ok hb (by omega) fun h1 hb1 m1 => ⟨_, rfl, ?_⟩
  have hln := len_numR r
  refine Join.mk fun K hK => PIf.no rfl (atI (LoadB.mk (hget_lit1 hb1 rfl) (hK _ _ ?_)))
  refine PIf.intro (fun hq => ?_) (fun hq => ?_)
  · have := H h1
    have hq : (numR r).2.bad = true := hq
    simp only [textR, hq, if_true] at this
    exact this hb1 m1
  · have hq : (numR r).2.bad = false := hq
    have e : IntKind.wrap .i64 (if (1099511627776 : Int) < ((numR r).1 : Int) then 1099511627776 else ((numR r).1 : Int)) = ((min (numR r).1 1099511627776 : Nat) : Int) := by
      rw [wrap_i64 (by split <;> omega) (by split <;> omega)]
      split <;> omega
    rw [e]
    refine vTake_ok hb1 fun h2 hb2 m2 => ⟨_, rfl, ?_⟩
    have := H h2
    simp only [textR, hq] at this
    rw [if_neg (by simp)] at this
    have e2 : takeR (min (numR r).1 1099511627776) (numR r).2 = takeR (numR r).1 (numR r).2 := by
      by_cases hle : (numR r).1 ≤ 1099511627776
      · rw [Nat.min_eq_left hle]
      · have q1 : (numR r).2.rest.length < min (numR r).1 1099511627776 := by omega
        have q2 : (numR r).2.rest.length < (numR r).1 := by omega
        simp only [takeR, hq, Bool.false_eq_true, if_false, if_pos q1, if_pos q2]
    rw [e2] at hb2 ⊢
    exact this hb2 (m1.trans m2)

theorem vEnd_ok {A : Amb} {h : Heap} {b : Nat} {r : Rd} {R : Value → Heap → Prop} (hb : RdAt h b r) (H : R (.bool (endR r)) h) : HCalls A P f_vary_Reader_End #[ptrV b] h R := by
  refine ok_vary_Reader_End ?_
  unfold F_vary_Reader_End
  refine PIf.yes rfl (atI (LoadB.mk (hget_lit1 hb rfl) ?_))
  unfold endR at H
  refine PIf.intro (fun hq => ?_) (fun hq => ?_)
  · refine atI (LoadS.mk (hget_lit hb rfl) ?_)
    rw [hq] at H
    have e : sEq (strL r.rest) (⟨#[]⟩ : ByteArray) = r.rest.isEmpty := by
      rw [sEq_iff, ← strL_nil]
      cases hr : r.rest with
      | nil => simp
      | cons c t => simp [strL_inj]
    rw [e]; simpa using H
  · rw [hq] at H; exact H

/-! ### sums and frames -/
theorem crc_step {c : Nat} (hc : c < 4294967296) : bXor .u32 ((c : Int).fdiv ((2 : Int) ^ (1 : Nat))) (bAnd .u32 (3988292384 : Int) (IntKind.wrap .u32 (0 - (bAnd .u32 (c : Int) (1 : Int))))) = ((crcBit c : Nat) : Int) := by
  have h1 : bAnd .u32 (c : Int) (1 : Int) = ((c % 2 : Nat) : Int) := by
    have := and_u32 (a := c) (b := 1) hc (by decide)
    rw [Nat.and_one_is_mod] at this
    exact this
  rw [fdiv_nat c 1, h1]
  unfold crcBit
  have hd : c / 2 ^ 1 < 4294967296 := by omega
  by_cases ho : c % 2 = 1
  · rw [if_pos ho, ho]
    have e : IntKind.wrap .u32 (0 - ((1 : Nat) : Int)) = ((4294967295 : Nat) : Int) := by decide
    have e2 : bAnd .u32 (3988292384 : Int) ((4294967295 : Nat) : Int) = ((3988292384 : Nat) : Int) := by decide
    rw [e, e2, xor_u32 hd (by decide)]
  · rw [if_neg ho, show c % 2 = 0 by omega]
    have e : IntKind.wrap .u32 (0 - ((0 : Nat) : Int)) = ((0 : Nat) : Int) := by decide
    have e2 : bAnd .u32 (3988292384 : Int) ((0 : Nat) : Int) = ((0 : Nat) : Int) := by decide
    rw [e, e2, xor_u32 hd (by decide)]
    simp
theorem crc_not {c : Nat} (hc : c < 4294967296) : bXor .u32 (if IntKind.signed .u32 then -1 else IntKind.max .u32) (c : Int) = ((4294967295 - c : Nat) : Int) := by
  have e : (if IntKind.signed .u32 then -1 else IntKind.max .u32) = ((4294967295 : Nat) : Int) := by decide
  rw [e, xor_u32 (by decide) hc]
  congr 1
  have e1 : 4294967295 - c = 2 ^ 32 - (c + 1) := by omega
  have e2 : (4294967295 : Nat) = 2 ^ 32 - 1 := by decide
  have hc' : c < 2 ^ 32 := by omega
  rw [e1, e2]
  apply Nat.eq_of_testBit_eq
  intro i
  rw [Nat.testBit_xor, Nat.testBit_two_pow_sub_one, Nat.testBit_two_pow_sub_succ hc']
  by_cases hi : i < 32
  · simp [hi]
  · have : c.testBit i = false := Nat.testBit_lt_two_pow (Nat.lt_of_lt_of_le hc' (Nat.pow_le_pow_right (by decide) (by omega)))
    simp [hi, this]
theorem fSum_ok {A : Amb} {h : Heap} {l : List UInt8} {R : Value → Heap → Prop} (hl : l.length ≤ 1099511627776) (H : R (.int .u32 (crcL l : Int)) h) : HCalls A P f_frame_Sum #[.string (strL l)] h R := by
  refine ok_frame_Sum ?_
  unfold F_frame_Sum
  rw [strL_size]
  refine Loop.rule (fun m x hh => ∃ i : Nat, x = ((crcF (l.take i) : Int), (i : Int), ()) ∧ hh = h ∧ m = l.length - i ∧ i ≤ l.length) ?_ ⟨0, rfl, rfl, rfl, by omega⟩
  rintro K m _ hh ⟨i, rfl, e, rfl, hi⟩ hK
  subst hh
  refine PIf.intro (fun hq => ?_) (fun hq => ?_)
  · have hil : i < l.length := by simpa using hq
    obtain ⟨c, hc⟩ : ∃ c, l[i]? = some c := ⟨_, List.getElem?_eq_getElem hil⟩
    have hc256 : c.toNat < 256 := c.toNat_lt
    refine ⟨⟨by dsimp only; omega, by dsimp only; omega⟩, ?_⟩
    have hlt := crcF_lt (l.take i)
    dsimp only
    rw [sAt_nat (c := c) (by rw [strL_list]; exact hc), wrap_u32, Nat.mod_eq_of_lt (show c.toNat < 4294967296 by omega), xor_u32 hlt (by omega)]
    have hx : crcF (l.take i) ^^^ c.toNat < 4294967296 := Nat.xor_lt_two_pow (n := 32) hlt (by omega)
    refine Loop.rule (fun m x hh => ∃ k : Nat, x = ((crcIt k (crcF (l.take i) ^^^ c.toNat) : Int), (k : Int), ()) ∧ hh = h ∧ m = 8 - k ∧ k ≤ 8) ?_ ⟨0, rfl, rfl, rfl, by omega⟩
    rintro K1 m1 _ hh ⟨k, rfl, e, rfl, hk⟩ hK1
    subst hh
    refine PIf.intro (fun hq2 => ?_) (fun hq2 => ?_)
    · have hk8 : k < 8 := by simp at hq2; omega
      dsimp only
      rw [crc_step (crcIt_lt hx k), wrap_succ (by omega)]
      exact hK1 (8 - (k + 1)) _ _ (by omega) ⟨k + 1, rfl, rfl, rfl, hk8⟩
    · have hk8 : k = 8 := by simp at hq2; omega
      subst hk8
      dsimp only
      rw [wrap_succ (by omega)]
      refine hK (l.length - (i + 1)) _ _ (by omega) ⟨i + 1, ?_, rfl, rfl, hil⟩
      rw [List.take_add_one, hc, Option.toList_some, crcF_snoc]
      rfl
  · have hil : i = l.length := by simp at hq; omega
    have e : l.take i = l := List.take_of_length_le (by omega)
    dsimp only
    rw [e, crc_not (crcF_lt l)]
    exact H

theorem mark_byte (n k : Nat) : IntKind.wrap .u8 ((n : Int).fdiv ((2 : Int) ^ k)) = (((byteN (n / 2 ^ k % 256)).toNat : Nat) : Int) := by
  rw [fdiv_nat, wrap_u8, byteN_nat (Nat.mod_lt _ (by decide))]
theorem fmark_ok {A : Amb} {h : Heap} {n : Nat} {R : Value → Heap → Prop} (H : ∀ h', Ext h h' → R (.string (strL (markL n))) h') : HCalls A P f_frame_mark #[.int .u32 (n : Int)] h R := by
  refine ok_frame_mark ?_
  unfold F_frame_mark
  refine New.mk fun h1 _ hb x _ => ?_
  have e0 : IntKind.wrap .u8 (n : Int) = (((byteN (n % 256)).toNat : Nat) : Int) := by rw [wrap_u8, byteN_nat (Nat.mod_lt _ (by decide))]
  rw [mark_byte, mark_byte, mark_byte, e0] at hb
  have o : Own ByteE t_uint8 h1 ⟨some ⟨h.size, 0, none⟩, 4, 4⟩ (markL n) := Own.lit (E := ByteE) (l := markL n) hb rfl (by simp [maxLen, markL])
  exact bytes_str (s := ⟨some ⟨h.size, 0, none⟩, 4, 4⟩) P_slu8 P_u8 P_str o.view ⟨_, rfl, H _ x⟩

theorem fWrap_ok {A : Amb} {h : Heap} {l : List UInt8} {R : Value → Heap → Prop} (hl : l.length ≤ 1099511627776) (H1 : 1048576 < l.length → R (.tuple #[.string ⟨#[]⟩, .int .i64 2]) h)
    (H : l.length ≤ 1048576 → ∀ h', Ext h h' → R (.tuple #[.string (strL (wrapL l)), .int .i64 0]) h') : HCalls A P f_frame_Wrap #[.string (strL l)] h R := by
  refine ok_frame_Wrap ?_
  unfold F_frame_Wrap
  rw [strL_size]
  refine PIf.intro (fun hq => H1 (by simp at hq; omega)) (fun hq => ?_)
  have hlen : l.length ≤ 1048576 := by simp at hq; omega
  have := putV_len10 (n := l.length) (by omega)
  rw [wrap_u64n (by omega)]
  refine vPut_ok (by omega) fun h1 x1 => ⟨_, rfl, ?_⟩
  refine fSum_ok hl ⟨_, rfl, ?_⟩
  refine fmark_ok fun h2 x2 => ⟨_, rfl, ⟨?_, ?_, ?_⟩⟩
  · rw [strL_size, strL_size, max_i64, markL_len]; omega
  · rw [strL_app, strL_size, max_i64, List.length_append, markL_len]; omega
  · rw [strL_app, strL_app]
    exact H hlen _ (x1.trans x2)
theorem fNext_ok {A : Amb} {h : Heap} {l : List UInt8} {R : Value → Heap → Prop} (hl : l.length ≤ 1099511627776)
    (H : ∀ h', Ext h h' → R (.tuple #[.string (strL (nextL l).2.1), .string (strL (nextL l).2.2), .int .i64 ((nextL l).1 : Int)]) h') : HCalls A P f_frame_Next #[.string (strL l)] h R := by
  refine ok_frame_Next ?_
  unfold F_frame_Next
  rw [strL_size]
  have H0 := H h Mod.refl
  refine vGet_ok (by rw [strL_size]; exact hl) (fun hn => ⟨_, _, _, rfl, ?_⟩) (fun n t hn => ⟨_, _, _, rfl, ?_⟩) <;> rw [strL_list] at hn
  · have hnx : nextL l = if l.length < 10 ∧ ∀ c ∈ l, 128 ≤ c.toNat then (20, [], []) else (21, [], []) := by unfold nextL; rw [hn]
    rw [hnx] at H0
    refine Join.mk fun K hK => PIf.yes rfl (hK _ _ ?_)
    refine PIf.intro (fun hq => ?_) (fun hq => ?_)
    · have h10 : l.length < 10 := by simp at hq; omega
      refine Loop.rule (fun m x hh => ∃ i : Nat, x = ((i : Int), ()) ∧ hh = h ∧ m = l.length - i ∧ i ≤ l.length ∧ ∀ c ∈ l.take i, 128 ≤ c.toNat) ?_ ⟨0, rfl, rfl, rfl, by omega, by simp⟩
      rintro K1 m _ hh ⟨i, rfl, e, rfl, hi, hall⟩ hK1
      subst hh
      refine PIf.intro (fun hq2 => ?_) (fun hq2 => ?_)
      · have hil : i < l.length := by simpa using hq2
        obtain ⟨c, hc⟩ : ∃ c, l[i]? = some c := ⟨_, List.getElem?_eq_getElem hil⟩
        refine ⟨⟨by dsimp only; omega, by dsimp only; omega⟩, ?_⟩
        dsimp only
        rw [sAt_nat (c := c) (by rw [strL_list]; exact hc)]
        refine PIf.intro (fun hq3 => ?_) (fun hq3 => ?_)
        · rw [if_neg] at H0
          · exact H0
          · rintro ⟨_, h2⟩
            have := h2 c (List.mem_of_getElem? hc)
            simp at hq3; omega
        · rw [wrap_succ (by omega)]
          refine hK1 (l.length - (i + 1)) _ _ (by omega) ⟨i + 1, rfl, rfl, rfl, hil, fun x hx => ?_⟩
          rw [List.take_add_one, hc, Option.toList_some] at hx
          rcases List.mem_append.1 hx with hx | hx
          · exact hall x hx
          · simp at hx; subst hx; simp at hq3; omega
      · have hil : i = l.length := by simp at hq2; omega
        rw [List.take_of_length_le (by omega)] at hall
        rw [if_pos ⟨h10, hall⟩] at H0
        exact H0
    · have h10 : ¬ l.length < 10 := by simp at hq; omega
      rw [if_neg (fun hh => h10 hh.1)] at H0
      refine Join.mk fun K2 hK2 => PIf.yes rfl (hK2 _ _ (PIf.yes rfl H0))
  · obtain ⟨el, hn64⟩ := getV0 hn
    have htl : t.length ≤ 1099511627776 := by rw [el] at hl; simp at hl; omega
    have hnx : nextL l = if 1048576 < n then (21, [], []) else if t.length < 4 + n then (20, [], [])
        else if t.take 4 = markL (crcL ((t.drop 4).take n)) then (0, (t.drop 4).take n, t.drop (4 + n)) else (21, [], []) := by unfold nextL; rw [hn]
    rw [hnx] at H0 H
    refine Join.mk fun K hK => PIf.no rfl (hK _ _ (PIf.no rfl ?_))
    refine Join.mk fun K2 hK2 => PIf.no rfl (hK2 _ _ ?_)
    refine PIf.intro (fun hq => ?_) (fun hq => ?_)
    · have h1 : 1048576 < n := by simp at hq; omega
      rw [if_pos h1] at H0
      exact H0
    have h1 : ¬ 1048576 < n := by simp at hq; omega
    rw [if_neg h1] at H0 H
    rw [strL_size]
    refine Join.mk fun K3 hK3 => ?_
    have key : ∀ bb : Bool, (bb = true ↔ t.length < 4 + n) → K3 (bb, ()) h := fun bb hbb => by
      refine hK3 _ _ ?_
      refine PIf.intro (fun hq => ?_) (fun hq => ?_)
      · rw [if_pos (hbb.1 hq)] at H0
        exact H0
      have h2 : ¬ t.length < 4 + n := fun hh => by have hq : bb = false := hq; rw [hbb.2 hh] at hq; cases hq
      rw [if_neg h2] at H0 H
      have e4 : IntKind.wrap .u64 ((4 : Int) + (n : Int)) = ((4 + n : Nat) : Int) := by rw [show (4 : Int) + (n : Int) = ((4 + n : Nat) : Int) by simp]; exact wrap_u64n (by omega)
      rw [e4]
      refine ⟨⟨by omega, by omega⟩, ⟨by omega, by omega⟩, ⟨by omega, by omega⟩, ?_⟩
      have eb : (strL t).extract (4 : Int).toNat ((4 + n : Nat) : Int).toNat = strL ((t.drop 4).take n) := by
        rw [show (4 : Int).toNat = 4 from rfl, Int.toNat_natCast, strL_mid, List.drop_take]; congr 2; omega
      have em : (strL t).extract 0 (4 : Int).toNat = strL (t.take 4) := strL_take _ _
      have er : (strL t).extract ((4 + n : Nat) : Int).toNat (strL t).size = strL (t.drop (4 + n)) := by rw [Int.toNat_natCast, strL_drop]
      rw [strL_size] at er
      rw [eb, em, er]
      refine fSum_ok (by simp; omega) ⟨_, rfl, ?_⟩
      refine fmark_ok fun h2 x2 => ⟨_, rfl, ?_⟩
      have H2 := H h2 x2
      rw [sEq_iff]
      refine PIf.intro (fun hq => ?_) (fun hq => ?_)
      · rw [if_neg (by simp [strL_inj] at hq; exact hq)] at H2
        exact H2
      · rw [if_pos (by simp [strL_inj] at hq; exact hq)] at H2
        exact ⟨⟨by omega, by omega⟩, H2⟩
    refine PIf.intro (fun hq => key _ ⟨fun _ => by simp at hq; omega, fun _ => rfl⟩) (fun hq => key _ ?_)
    have h4 : 4 ≤ t.length := by simp at hq; omega
    have e1 : IntKind.wrap .u64 (IntKind.wrap .i64 ((t.length : Int) - (4 : Int))) = ((t.length - 4 : Nat) : Int) := by
      rw [show (t.length : Int) - (4 : Int) = ((t.length - 4 : Nat) : Int) by omega, wrap_nat (by omega), wrap_u64n (by omega)]
    rw [e1]
    simp
    omega
end Go.Lf.G

/-
  Contracts: the document's numbers and texts as bytes, and what reads them (chapter 1).
-/
set_option maxRecDepth 100000
set_option linter.unusedVariables false
set_option linter.unusedSimpArgs false
namespace Go.Lf.G
open Go

theorem tmod_nat (n k : Nat) : ((n : Nat) : Int).tmod ((k : Nat) : Int) = ((n % k : Nat) : Int) := by
  rw [Int.tmod_eq_emod_of_nonneg (by omega)]; rfl
theorem tdiv_nat (n k : Nat) : ((n : Nat) : Int).tdiv ((k : Nat) : Int) = ((n / k : Nat) : Int) := by
  rw [Int.tdiv_eq_ediv_of_nonneg (by omega)]; rfl
theorem rPut_ok {A : Amb} {h : Heap} {n : Nat} {R : Value → Heap → Prop} (hn : n < 18446744073709551616) (H : ∀ h', Ext h h' → R (.string (strL (putV n))) h') : HCalls A P f_wherryref01_Put #[.int .u64 (n : Int)] h R := by
  refine ok_wherryref01_Put ?_
  unfold F_wherryref01_Put
  have hl10 := putV_len10 hn
  refine Loop.rule (fun m x hh => ∃ (k : Nat) (s : Sl) (d : List UInt8), x = ((k : Int), s, ()) ∧ Own ByteE t_uint8 hh s d ∧ Ext h hh ∧ (∀ b, s.blk = some b → h.size ≤ b) ∧ putV n = d ++ putV k ∧ m = k ∧ k ≤ n) ?_
    ⟨n, ⟨none, 0, 0⟩, [], rfl, Own.nil, Mod.refl, fun b hb => by simp [Sl.blk] at hb, rfl, rfl, Nat.le_refl _⟩
  rintro K m _ hh ⟨k, s, d, rfl, o, x, hs, e, hm, hkn⟩ hK
  have hd : d.length ≤ 10 := by rw [e] at hl10; simp at hl10; omega
  refine PIf.intro (fun hq => ?_) (fun hq => ?_)
  · have hk : k < 128 := by simp at hq; omega
    refine New.append1 (E := ByteE) (x := byteN k) (s := s) (l := d) (by dsimp only [ByteE]; rw [byteN_nat (show k < 256 by omega), wrap_u8, Nat.mod_eq_of_lt (show k < 256 by omega)]) app_u8 o (by simp; omega) (by simp [maxLen]; omega) fun s' h' o' m' hb' hn' => ?_
    refine bytes_str P_slu8 P_u8 P_str o'.view ⟨_, rfl, ?_⟩
    have e2 : d ++ [byteN k] = putV n := by rw [e, putV_small hk]
    rw [e2]
    exact H _ (x.more m' hs)
  · have hk : ¬ k < 128 := by simp at hq; omega
    have eb : IntKind.wrap .u8 (IntKind.wrap .u64 ((((k : Nat) : Int).tmod (128 : Int)) + (128 : Int))) = (((byteN (k % 128 + 128)).toNat : Nat) : Int) := by
      have h1 := tmod_nat k 128
      rw [show (((128 : Nat) : Int)) = (128 : Int) from rfl] at h1
      rw [h1, show ((k % 128 : Nat) : Int) + (128 : Int) = ((k % 128 + 128 : Nat) : Int) by simp, wrap_u64n (by omega), wrap_u8, byteN_nat (by omega), Nat.mod_eq_of_lt (by omega)]
    refine New.append1 (E := ByteE) (x := byteN (k % 128 + 128)) (s := s) (l := d) (by dsimp only [ByteE]; rw [eb]) app_u8 o (by simp; omega) (by simp [maxLen]; omega) fun s' h' o' m' hb' hn' => ?_
    refine hK (k / 128) _ _ (by omega) ⟨k / 128, s', d ++ [byteN (k % 128 + 128)], ?_, o', x.more m' hs, fun b hb => ?_, ?_, rfl, by omega⟩
    · dsimp only
      have h1 := tdiv_nat k 128
      rw [show (((128 : Nat) : Int)) = (128 : Int) from rfl] at h1
      rw [h1, wrap_u64n (by omega)]
    · rcases hb' b hb with h1 | h1
      · exact hs b h1
      · have := x.size; omega
    · rw [e, putV_big hk]; simp
theorem rInt_ok {A : Amb} {h : Heap} {n : Nat} {R : Value → Heap → Prop} (hn : n ≤ 9223372036854775807) (H : ∀ h', Ext h h' → R (.string (strL (putV n))) h') : HCalls A P f_wherryref01_Int #[.int .i64 (n : Int)] h R := by
  refine ok_wherryref01_Int ?_
  unfold F_wherryref01_Int
  rw [wrap_u64n (by omega)]
  exact rPut_ok (by omega) fun h1 x1 => ⟨_, rfl, H h1 x1⟩
theorem rText_ok {A : Amb} {h : Heap} {l : List UInt8} {R : Value → Heap → Prop} (hl : l.length ≤ 1099511627776) (H : ∀ h', Ext h h' → R (.string (strL (textL l))) h') : HCalls A P f_wherryref01_Text #[.string (strL l)] h R := by
  refine ok_wherryref01_Text ?_
  unfold F_wherryref01_Text
  rw [strL_size]
  have := putV_len10 (n := l.length) (by omega)
  refine rInt_ok (by omega) fun h1 x1 => ⟨_, rfl, ⟨by rw [strL_size, max_i64]; omega, ?_⟩⟩
  rw [strL_app]
  exact H _ x1

theorem rGet_ok {A : Amb} {h : Heap} {l : List UInt8} {R : Value → Heap → Prop} (hl : l.length ≤ 1099511627776)
    (H0 : getV 0 0 l = none → ∀ h', Ext h h' → R (.tuple #[.int .u64 0, .int .i64 0]) h')
    (H1 : ∀ n t, getV 0 0 l = some (n, t) → ∀ k h', Ext h h' → 0 < k → k ≤ l.length → t = l.drop k → R (.tuple #[.int .u64 (n : Int), .int .i64 (k : Int)]) h') : HCalls A P f_wherryref01_Get #[.string (strL l)] h R := by
  refine ok_wherryref01_Get ?_
  unfold F_wherryref01_Get
  rw [strL_size]
  refine Loop.rule (fun m x hh => ∃ i : Nat, x = (((rawV (l.take i) % 18446744073709551616 : Nat) : Int), (i : Int), ()) ∧ hh = h ∧ i ≤ l.length ∧ i ≤ 10 ∧ (∀ c ∈ l.take i, 128 ≤ c.toNat) ∧ m = 10 - i) ?_ ⟨0, rfl, rfl, by omega, by omega, by simp, rfl⟩
  rintro K m _ hh ⟨i, rfl, e, hi, h10, hall, hm⟩ hK
  subst hh
  refine Join.mk fun K1 hK1 => ?_
  have key : ∀ b : Bool, (b = true ↔ i < l.length ∧ i < 10) → K1 (b, ()) h := fun b hb => by
    refine hK1 _ _ ?_
    refine PIf.intro (fun hq => ?_) (fun hq => ?_)
    · obtain ⟨hil, hi10⟩ := hb.1 hq
      obtain ⟨c, hc⟩ : ∃ c, l[i]? = some c := ⟨_, List.getElem?_eq_getElem hil⟩
      have hc256 : c.toNat < 256 := c.toNat_lt
      dsimp only
      rw [sAt_nat (c := c) (by rw [strL_list]; exact hc)]
      have e7 : IntKind.wrap .i64 ((7 : Int) * (i : Int)) = ((7 * i : Nat) : Int) := by rw [show (7 : Int) * (i : Int) = ((7 * i : Nat) : Int) by simp]; exact wrap_nat (by omega)
      have et : ((c.toNat : Nat) : Int).tmod (128 : Int) = ((c.toNat % 128 : Nat) : Int) := tmod_nat c.toNat 128
      have h9 := pow128_le (show i ≤ 9 by omega)
      have e9 : (128 : Nat) ^ 9 = 9223372036854775808 := by decide
      have hr := rawV_lt (l.take i)
      have hlen : (l.take i).length = i := by simp; omega
      rw [hlen] at hr
      have hrm : rawV (l.take i) % 18446744073709551616 = rawV (l.take i) := Nat.mod_eq_of_lt (by omega)
      have hst : l.take (i + 1) = l.take i ++ [c] := by rw [List.take_add_one, hc, Option.toList_some]
      have hv : bOr .u64 ((rawV (l.take i) % 18446744073709551616 : Nat) : Int) (IntKind.wrap .u64 ((IntKind.wrap .u64 (((c.toNat : Nat) : Int).tmod (128 : Int))) * ((2 : Int) ^ (min (IntKind.wrap .i64 ((7 : Int) * (i : Int))).toNat (IntKind.bits .u64))))) = ((rawV (l.take (i + 1)) % 18446744073709551616 : Nat) : Int) := by
        rw [e7, et, wrap_u64n (n := c.toNat % 128) (by omega), shift7 (by omega) (Nat.mod_lt _ (by decide)), hrm, step_or (by omega) hr (Nat.mod_lt _ (by decide)), hst, rawV_snoc, hlen]
        congr 1
        by_cases hi9 : i = 9
        · subst hi9
          rw [e9] at hr ⊢
          omega
        · have h8 := pow128_le (show i ≤ 8 by omega)
          have e8 : (128 : Nat) ^ 8 = 72057594037927936 := by decide
          have : c.toNat % 128 * 128 ^ i ≤ 127 * 128 ^ i := Nat.mul_le_mul_right _ (by omega)
          have y1 : c.toNat % 128 * 128 ^ i < 18446744073709551616 := by omega
          have y2 : rawV (l.take i) + c.toNat % 128 * 128 ^ i < 18446744073709551616 := by omega
          rw [Nat.mod_eq_of_lt y1, Nat.mod_eq_of_lt y2]
      rw [hv, wrap_succ (by omega)]
      refine ⟨⟨by omega, by omega⟩, by rw [e7]; omega, ⟨by omega, by omega⟩, ?_⟩
      refine PIf.intro (fun hq2 => ?_) (fun hq2 => ?_)
      · have hlow : c.toNat < 128 := by simp at hq2; omega
        have hg := getV0_at hc hlow hall hi10
        refine rPut_ok (Nat.mod_lt _ (by decide)) fun h2 x2 => ⟨_, rfl, ⟨by omega, by omega⟩, ?_⟩
        rw [sEq_iff, Int.toNat_natCast, strL_take]
        refine PIf.intro (fun hq3 => ?_) (fun hq3 => ?_)
        · have hne : ¬ putV (rawV (l.take (i + 1)) % 18446744073709551616) = l.take (i + 1) := by simpa [strL_inj] using hq3
          rw [if_neg hne] at hg
          exact H0 hg h2 x2
        · have heq : putV (rawV (l.take (i + 1)) % 18446744073709551616) = l.take (i + 1) := by simpa [strL_inj] using hq3
          rw [if_pos heq] at hg
          exact H1 _ _ hg (i + 1) h2 x2 (by omega) (by omega) rfl
      · have hhi : 128 ≤ c.toNat := by simp at hq2; omega
        refine hK (10 - (i + 1)) _ _ (by omega) ⟨i + 1, rfl, rfl, hil, by omega, fun y hy => ?_, rfl⟩
        rw [hst] at hy
        rcases List.mem_append.1 hy with hy | hy
        · exact hall y hy
        · simp at hy; subst hy; exact hhi
    · have hq : b = false := hq
      have hend : ¬ (i < l.length ∧ i < 10) := fun hh => by rw [hb.2 hh] at hq; cases hq
      refine H0 (getV0_none fun x hx => ?_) h Mod.refl
      by_cases hi' : i = 10
      · subst hi'; exact hall x hx
      · have : i = l.length := by omega
        rw [List.take_of_length_le (by omega)] at hx
        rw [List.take_of_length_le (by omega)] at hall
        exact hall x hx
  refine PIf.intro (fun hq => key _ ?_) (fun hq => key _ ?_)
  · have : i < l.length := by simpa using hq
    simp [this]; omega
  · have : ¬ i < l.length := by simp at hq; omega
    simp [this]
end Go.Lf.G

