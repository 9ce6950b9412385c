/-
 The law CasCounts (chapter 10) over its formula.
-/
import Derived.Test.YtdmlhpjdmgaggaaGreatDoorLfGLCasCounts
import Derived.Test.YtdmlhpjdmgaggaaGreatDoorLfM8ToO5
set_option linter.unusedVariables false
set_option linter.unusedSimpArgs false
set_option maxRecDepth 100000
set_option linter.unusedVariables false
set_option linter.unusedSimpArgs false
namespace Go.Lf.G
open Go
open M (Sorted Ah Dr BM Ao BG Cj A7 OkL Bl atK Bz)
def Um : Bud := ⟨12800, 0, 700, by decide, by decide, by decide⟩
theorem Dz.args {B : Bud} {g h : Heap} {s : Nat} {q : Hp} {k : Nat → Nat} {st : Db} {m : Bx} {D : BF} {age c n : Nat} (C : Dz B g h s q k st m D age c n) {sl : Sl} {l : List Pr} (v : View Aq g sl l) : l ≠ [] → ∀ b, sl.blk = some b → b < h.size ∧ k b = 0 := C.db.args v
theorem Zm {A : Amb} {h : Heap} {calls : Sl} {cs : List WM} {N : Nat} {R : Value → Heap → Prop} (E : Evn h) (v : View Ql h calls cs) (hc : ∀ x ∈ cs, ∃ cl l, SB N h x cl l) (hN : N ≤ 1048576) (H : ∀ h', Ext h h' → R (.bool true) h') : AA A P Eg #[.slice calls.p calls.len calls.cap] h R := by
 refine LG ?_
 unfold Em
 refine VS E fun h1 x1 => ⟨_, rfl, PIf.no rfl ?_⟩
 rw [v.len]
 refine PIf.intro (fun hq => H h1 x1) (fun hq => ?_)
 have hcl : cs.length ≤ 100 := by have := of_decide_eq_false hq; omega
 refine VH fun b h2 Sb B2 x2 f2 => ⟨_, rfl, ?_⟩
 have x02 := x1.trans x2
 have sz1 := x1.size
 refine TA (B := Um) E B2 x02 (fun c hc => by have := f2 c hc; omega) rfl rfl (fun n => rfl) (fun n => rfl) (fun x hx => absurd rfl hx) (by decide) (by decide) fun h3 s q3 k3 st3 m3 D3 eb3 C3 mp3 md3 kk3 hs => ⟨_, _, rfl, PIf.no rfl ?_⟩
 refine Loop.rule (fun mm x hh => ∃ (i n : Nat) (q : Hp) (k : Nat → Nat) (st : Db) (m : Bx) (D : BF), x = ((n : Int), (i : Int), ()) ∧ Dz Um h hh s q k st m D (1 + 3 * i) (64 * i) n ∧ n ≤ i ∧ i ≤ cs.length ∧ mm = cs.length - i) ?_
  ⟨0, 0, q3, k3, st3, m3, D3, rfl, C3, Nat.le_refl _, Nat.zero_le _, rfl⟩
 rintro K mm _ hh ⟨i, n, q, k, st, m, D, rfl, C, hn, hi, rfl⟩ hK
 dsimp only
 refine PIf.intro (fun hq => ?_) (fun hq => H hh C.db.mem.ext)
 have hil : i < cs.length := by have := of_decide_eq_true hq; omega
 have hget : cs[i]? = some cs[i] := List.getElem?_eq_getElem hil
 obtain ⟨cl, l, ck⟩ := hc cs[i] (List.getElem_mem hil)
 generalize cs[i] = cc at *
 rw [← v.len]
 refine (v.ext C.db.mem.ext).idx hget fun a _ c0 => ?_
 obtain ⟨c0, c1, c2, c3, c4, c5, c6⟩ := ABP c0
 refine Aa.mk c0 (AU.mk (s := cc.cs) c1 (AU.mk (s := cc.bs) c2 (AC.mk c3 (AC.mk c4 (Aa.mk c5 (AZ.mk c6 ?_))))))
 clear c0 c1 c2 c3 c4 c5 c6
 refine New.copy7 fun bb h6 ebb hb6 x6 s6 => ?_
 refine Aa.mk (AJ hb6 rfl) ?_
 have C6 := C.on x6
 have xg := C6.db.mem.ext
 have vc := ck.cs.ext xg
 have vb := ck.bs.ext xg
 have hkey := ck.key
 have hkeys : ∀ x ∈ cl, x.key.size ≤ 1099511627776 := fun x hx => by have := ck.keys x hx; omega
 refine Join.mk fun K1 hK1 => ?_
 have fin : ∀ h' q' k' st' m' D' age' c' n', Dz Um h h' s q' k' st' m' D' age' c' n' → age' ≤ 1 + 3 * (i + 1) → c' ≤ 64 * (i + 1) → n' ≤ i + 1 → K1 ((n' : Int), ()) h' := fun h' q' k' st' m' D' age' c' n' C' ha hcc hn' => by
  refine hK1 _ _ (Tv C' ⟨_, rfl, PIf.no (by simp) ?_⟩)
  rw [AQ (by omega)]
  exact hK (cs.length - (i + 1)) _ _ (by omega) ⟨i + 1, n', q', k', st', m', D', rfl, C'.put ha hcc (by show 64 * (i + 1) ≤ 12800; omega), hn', hil, rfl⟩
 clear hK1 hK
 refine PIf.intro (fun h0 => ?_) (fun h0 => PIf.intro (fun h1 => ?_) (fun h1 => PIf.intro (fun h2 => ?_) (fun h2 => PIf.intro (fun h3 => ?_) fun h3 => ?_)))
 ·refine AU.mk (s := cc.cs) (AB hb6 rfl) (AU.mk (s := cc.bs) (AB hb6 rfl) ?_)
  refine AA1 (B := Um) (conds := cc.cs) (sl := cc.bs) E C6 (by show 1 + 3 * i + 3 ≤ 700; omega) (by show 64 * i + 64 ≤ 12800; omega) (by omega) vc vb (C6.args ck.bs) hkeys (fun hne h7 x7 => ⟨_, rfl, PIf.no (by simpa using hne) ?_⟩) fun hz h7 q7 k7 st7 m7 D7 ed7 eb7 C7 mp7 md7 kk7 => ⟨_, rfl, PIf.yes rfl ?_⟩
  ·exact fin h7 q k st m D _ _ n (C6.on x7) (by omega) (by omega) (by omega)
  ·rw [AQ (by omega)]
   exact fin h7 q7 k7 st7 m7 D7 _ _ (n + 1) C7 (by omega) (by omega) (by omega)
 ·refine AC.mk (AB hb6 rfl) (AC.mk (AB hb6 rfl) (Aa.mk (AB hb6 rfl) ?_))
  refine Wz C6 (by omega) fun sl h7 o7 b7 x7 => ⟨sl, _, rfl, ?_⟩
  exact fin h7 q k st m D _ _ n (C6.on x7) (by omega) (by omega) (by omega)
 ·refine AC.mk (AB hb6 rfl) ?_
  refine AET C6 (by omega) fun h7 x7 => ⟨_, _, _, rfl, ?_⟩
  exact fin h7 q k st m D _ _ n (C6.on x7) (by omega) (by omega) (by omega)
 ·refine AZ.mk (AB hb6 rfl) ?_
  refine ABE (B := Um) E C6 (by show 1 + 3 * i + 3 ≤ 700; omega) fun h7 q7 k7 st7 m7 D7 ed7 eb7 C7 mp7 md7 kk7 => ⟨_, rfl, ?_⟩
  exact fin h7 q7 k7 st7 m7 D7 _ _ n C7 (by omega) (by omega) (by omega)
 ·exact fin h6 q k st m D _ _ n C6 (by omega) (by omega) (by omega)
end Go.Lf.G

