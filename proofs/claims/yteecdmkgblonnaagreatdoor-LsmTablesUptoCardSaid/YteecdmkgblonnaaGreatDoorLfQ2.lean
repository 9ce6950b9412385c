/-
 The law LsmTables (chapter 9) over its formula.
-/
import Derived.Test.YteecdmkgblonnaaGreatDoorLfGLLsmTables
import Derived.Test.YteecdmkgblonnaaGreatDoorLfQ0ToO3
set_option linter.unusedVariables false
set_option linter.unusedSimpArgs false
set_option maxRecDepth 100000
set_option linter.unusedVariables false
set_option linter.unusedSimpArgs false
namespace Go.Lf.G
open Go
open M (Sorted findK putL putsL refAllL findLs GoodL wrongP OkL liveL atK thereK)
abbrev zo : ByteArray := ⟨#[122, 111, 116, 104, 101, 114]⟩
theorem zo_not : ¬ Mine zo := by
 have hz : (bl zo).head? = some 122 := rfl
 rintro (⟨n, e⟩ | ⟨n, e⟩ | ⟨n, e⟩)
 ·rw [e, fnl_head] at hz; cases hz
 ·rw [e, fnn_head] at hz; cases hz
 ·rw [e, tfN_head] at hz; cases hz
theorem zo_l (n : Nat) : fnB nl n ≠ zo := fun e => zo_not (.inl ⟨n, e.symm⟩)
theorem zo_n (n : Nat) : fnB nn n ≠ zo := fun e => zo_not (.inr (.inl ⟨n, e.symm⟩))
def budT : Bud := ⟨6400, 2000000, 400, by decide, by decide, by decide⟩
theorem LsmTables_ok {A : Amb} {h : Heap} {calls : Sl} {cs : List CallC} {N : Nat} {other : ByteArray} {R : Value → Heap → Prop} (E : Evn h) (v : View CallE h calls cs) (hc : ∀ x ∈ cs, ∃ l ks, CallOk N h x l ks) (ho : other.size ≤ 1048576) (H : ∀ h', Ext h h' → R (.bool true) h') : HCalls A P f_wherrylaw09_LsmTables #[.slice calls.p calls.len calls.cap, .string other] h R := by
 refine ok_wherrylaw09_LsmTables ?_
 unfold F_wherrylaw09_LsmTables
 refine awake_ok E fun h1 x1 => ⟨_, rfl, PIf.no rfl ?_⟩
 rw [v.len]
 refine PIf.intro (fun hq => H h1 x1) (fun hq => ?_)
 have hcl : cs.length ≤ 100 := by have := of_decide_eq_false hq; omega
 refine bNew_ok fun b h2 Sb B2 x2 f2 => ⟨_, rfl, ?_⟩
 have x02 := x1.trans x2
 have sz1 := x1.size
 have sz2 := x2.size
 refine Join.mk fun K0 hK0 => ?_
 have w0 : wtF newB.files = 0 := rfl
 refine bAppend_ok B2 (by rw [w0]; omega) fun h3 S3 B3 md3 s3 => ⟨_, rfl, ?_⟩
 obtain ⟨e1, f1⟩ := ff_append calm_new.goes (k := zo) (d := other) (by decide)
 rw [e1]
 have cm1 := calm_append calm_new zo other
 have w1 : wtF (appendB newB zo other).2.files ≤ wtF newB.files + other.size + 1 := wt_append B2.good zo other
 have hz1 := f1 zo
 rw [if_pos rfl, ff_new] at hz1
 refine PIf.no rfl ?_
 refine bSync_ok B3 fun h4 B4 md4 => ⟨_, rfl, ?_⟩
 obtain ⟨e2, g2⟩ := ff_sync cm1.goes hz1
 have cm2 := calm_sync cm1 zo
 have w2 : wtF (syncB (appendB newB zo other).2 zo).2.files ≤ wtF (appendB newB zo other).2.files := wt_sync B3.good zo
 have w4 : wtF (syncB (appendB newB zo other).2 zo).2.files ≤ 1048577 := by rw [w0] at w1; omega
 rw [e2]
 refine hK0 _ _ (PIf.no rfl ?_)
 have hz2 := g2 zo
 rw [if_pos rfl] at hz2
 have ho2 : ∀ x, x ≠ zo → ff (syncB (appendB newB zo other).2 zo).2 x = none := fun x hx => by rw [g2, if_neg hx, f1, if_neg hx]; rfl
 generalize (syncB (appendB newB zo other).2 zo).2 = m4 at *
 have hzz : ff m4 zo = some (other, bs0) := by rw [hz2]; simp [nil_app]
 have f4 : ∀ c, S3 c → h.size ≤ c := fun c hc => by
  rcases s3 c hc with h | h
  ·have := f2 c h; omega
  ·omega
 have x04 : Ext h h4 := x02.then ((md3.weak fun c _ hc => .inr (by have := f2 c hc; omega)).trans (md4.weak fun c _ hc => .inr (f4 c hc)))
 refine start_ok (B := budT) E B4 x04 f4 cm2.1 cm2.2 (fun n => ho2 _ (zo_l n)) (fun n => ho2 _ (zo_n n)) (fun x hx => by
  by_cases e : x = zo
  ·subst e; decide
  ·exact absurd (ho2 x e) hx) (by decide) (by show wtF m4.files ≤ 2000000; omega) fun h5 q5 k5 st5 m5 D5 eb5 S5 fu5 mp5 ot5 md5 kk5 => ⟨_, _, rfl, PIf.no rfl ?_⟩
 have hzz5 : ff m5 zo = some (other, bs0) := by rw [ot5 zo zo_not, hzz]
 refine Loop.rule (fun mm x hh => ∃ (i : Nat) (q : Hp) (k : Nat → Nat) (st : Db) (m : Bx) (D : Disk), x = ((i : Int), ()) ∧ q.d = q5.d ∧ q.b = b ∧ StoreAt budT h hh q k st m D (1 + 3 * i) (64 * i) ∧ m.fuel = -1 ∧ ff m zo = some (other, bs0) ∧ i ≤ cs.length ∧ mm = cs.length - i) ?_
  ⟨0, q5, k5, st5, m5, D5, rfl, rfl, eb5, S5, fu5, hzz5, Nat.zero_le _, rfl⟩
 rintro K mm _ hh ⟨i, q, k, st, m, D, rfl, ed, eb, S, fu, hz, hi, rfl⟩ hK
 dsimp only
 rw [← ed, ← eb]
 refine PIf.intro (fun hq => ?_) (fun hq => ?_)
 ·have hil : i < cs.length := by have := of_decide_eq_true hq; omega
  have hget : cs[i]? = some cs[i] := List.getElem?_eq_getElem hil
  obtain ⟨l, ks, ck⟩ := hc cs[i] (List.getElem_mem hil)
  generalize cs[i] = cc at *
  refine Join.mk fun K2 hK2 => ?_
  have fin : ∀ h' q' k' st' m' D' age' c', StoreAt budT h h' q' k' st' m' D' age' c' → q'.d = q.d → q'.b = q.b → age' ≤ 1 + 3 * (i + 1) → c' ≤ 64 * (i + 1) → m'.fuel = -1 → ff m' zo = some (other, bs0) → K2 () h' := fun h' q' k' st' m' D' age' c' S' ed' eb' ha hcc fu' hz' => by
   refine hK2 _ _ ?_
   rw [wrap_succ (by omega)]
   exact hK (cs.length - (i + 1)) _ _ (by omega) ⟨i + 1, q', k', st', m', D', rfl, ed'.trans ed, eb'.trans eb, S'.put ha hcc (by show 64 * (i + 1) ≤ 6400; omega), fu', hz', hil, rfl⟩
  clear hK2 hK
  rw [← v.len]
  refine (v.ext S.mem.ext).idx hget fun a _ c0 => ?_
  obtain ⟨c0, c1, c2, c3, c4, c5⟩ := call_at c0
  refine LoadI.mk c0 (LoadL.mk (s := cc.bs) c1 (LoadS.mk c2 (LoadS.mk c3 (LoadI.mk c4 (LoadL.mk (s := cc.ks) c5 ?_)))))
  clear c0 c1 c2 c3 c4 c5
  refine New.copy6 fun bb h6 ebb hb6 x6 s6 => ?_
  refine LoadI.mk (hget_lit hb6 rfl) ?_
  have S6 := S.on x6
  have vb := ck.bs.ext S6.mem.ext
  have hsl := S6.args ck.bs
  have kbb : k bb = 0 := by rw [ebb]; exact S.free (Nat.le_refl _)
  obtain ⟨l1, l2, l3, l4⟩ := S6.frlen
  have srt := S6.sorted
  refine PIf.intro (fun h0 => ?_) (fun h0 => ?_)
  ·refine LoadL.mk (s := cc.bs) (hget_lit1 hb6 rfl) ?_
   refine Write_calm (B := budT) (s := cc.bs) E S6 fu (by show 1 + 3 * i + 3 ≤ 400; omega) vb hsl (by show 64 * i + 64 ≤ 6400; omega) fun h7 q7 k7 st7 m7 D7 ed7 eb7 S7 fu7 _ ot7 md7 kk7 => ⟨_, rfl, ?_⟩
   exact fin h7 q7 k7 st7 m7 D7 _ _ S7 ed7 eb7 (by omega) (by omega) fu7 (by rw [ot7 zo zo_not, hz])
  ·refine Scan_ok S6.mem l1 l2 l3 fun sl h7 o7 b7 x7 => ⟨sl, _, rfl, ?_⟩
   rw [show (1048576 : Int) = ((1048576 : Nat) : Int) from rfl, scan_all (by omega)] at o7
   have S7 := S6.on x7
   refine Flush_ok (B := budT) E S7 (by show 1 + 3 * i + 2 ≤ 400; omega) (fun h' m' fe => absurd fu fe.fuel) fun h8 q8 k8 st8 m8 D8 ed8 eb8 S8 sty8 fr8 mp8 _ ot8 md8 kk8 => ⟨_, rfl, ?_⟩
   have hfree : ∀ c, sl.blk = some c → k c = 0 := fun c hc => S6.free (b7 c hc)
   have o8 := o7.mod md8 fun c hc hk => hk (hfree c hc)
   have sl8 : ∀ c, sl.blk = some c → c < h7.size := fun c hc => own_lt o7 hc
   have hb8 := md8.blk (ext_cells x7 hb6) (by rw [kbb]; simp)
   refine Join.mk fun K3 hK3 => ?_
   have go : ∀ h9 q9 k9 st9 m9 D9 age9, StoreAt budT h h9 q9 k9 st9 m9 D9 age9 (64 * i) → q9.d = q.d → q9.b = q.b → age9 ≤ 1 + 3 * (i + 1) → m9.fuel = -1 → ff m9 zo = some (other, bs0) → mapS st9 = mapS st → Own PairE t_api_Pair h9 sl (mapS st) → K3 (0, ()) h9 := fun h9 q9 k9 st9 m9 D9 age9 S9 ed9 eb9 ha fu9 hz9 mp9 o9 => by
    obtain ⟨l1', l2', l3', l4'⟩ := S9.frlen
    refine hK3 _ _ ?_
    dsimp only
    rw [← ed9]
    refine Scan_ok S9.mem l1' l2' l3' fun s2 h10 o10 b10 x10 => ⟨s2, _, rfl, ?_⟩
    rw [show (1048576 : Int) = ((1048576 : Nat) : Int) from rfl, scan_all (by omega), mp9] at o10
    refine Join.mk fun K4 hK4 => PIf.no rfl (PIf.no rfl (PIf.no rfl ?_))
    refine M.Same_ok (o9.view.ext x10) o10.view (by omega) ⟨_, rfl, hK4 _ _ (PIf.no (by simp) ?_)⟩
    exact fin h10 q9 k9 st9 m9 D9 _ _ (S9.on x10) ed9 eb9 ha (by omega) fu9 hz9
   refine Join.mk fun K5 hK5 => ?_
   refine LoadI.mk (hget_lit hb8 rfl) (PIf.intro (fun h4 => ?_) (fun h4 => ?_))
   ·refine hK5 _ _ (PIf.yes rfl ?_)
    rw [← ed8]
    have sz7 := md8.size
    refine Compact_ok (B := budT) E S8 (by show 1 + 3 * i + 2 + 1 ≤ 400; omega) (fun h' m' fe => absurd (sty8.calm fu) fe.fuel) fun h9 q9 k9 st9 m9 D9 ed9 eb9 S9 sty9 fr9 mp9 ts9 ot9 md9 kk9 => ⟨_, rfl, ?_⟩
    exact go h9 q9 k9 st9 m9 D9 _ S9 (ed9.trans ed8) (eb9.trans eb8) (by omega) (sty9.calm (sty8.calm fu)) (by rw [ot9 zo zo_not, ot8 zo zo_not, hz]) (mp9.trans mp8) (o8.mod md9 fun c hc hk => by
     rcases kk8 c hk with h | h
     ·exact h (hfree c hc)
     ·have := sl8 c hc; omega)
   ·refine hK5 _ _ (PIf.no rfl ?_)
    exact go h8 q8 k8 st8 m8 D8 _ S8 ed8 eb8 (by omega) (sty8.calm fu) (by rw [ot8 zo zo_not, hz]) mp8 o8
 ·refine bRead_ok S.mem.box ⟨_, _, rfl, ?_⟩
  rw [ff_read S.up, hz]
  refine PIf.yes rfl ?_
  have e : sEq (other ++ bs0) other = true := by rw [app_nil, sEq_iff]; exact decide_eq_true rfl
  show R (.bool (sEq (other ++ bs0) other)) hh
  rw [e]
  exact H hh S.mem.ext
end Go.Lf.G

