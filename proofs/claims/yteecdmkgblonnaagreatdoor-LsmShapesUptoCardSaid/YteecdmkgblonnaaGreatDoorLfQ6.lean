/-
 The law LsmShapes (chapter 9) over its formula.
-/
import Derived.Test.YteecdmkgblonnaaGreatDoorLfGLLsmShapes
import Derived.Test.YteecdmkgblonnaaGreatDoorLfQ0ToO3
import Derived.Test.YteecdmkgblonnaaGreatDoorLfU23
set_option linter.unusedVariables false
set_option linter.unusedSimpArgs false
set_option maxRecDepth 100000
set_option linter.unusedVariables false
set_option linter.unusedSimpArgs false
namespace Go.Lf.G
open Go
open M (Sorted findK putL putsL refAllL findLs GoodL wrongP OkL liveL atK thereK)
/-! ### the law's own map beside what is fresh -/
def szN (x : Pr) : Nat := x.key.size + x.val.size
def fP (x : Pr) : ByteArray × Value := (x.key, .int .i64 (szN x : Int))
theorem upd_perm {k : ByteArray} {v : Value} : ∀ {m : List (ByteArray × Value)}, (m.map (·.1)).Nodup → (updM k v m).Perm ((k, v) :: m.filter fun p => !decide (p.1 = k))
 | [], _ => by simp [updM]
 | q :: m, nd => by
  rw [List.map_cons, List.nodup_cons] at nd
  unfold updM
  split
  ·rename_i hq
   rw [List.filter_cons, if_neg (by simp [hq]), List.filter_eq_self.2 fun p hp => ?_]
   simp only [Bool.not_eq_true', decide_eq_false_iff_not]
   intro e
   exact nd.1 (List.mem_map.2 ⟨p, hp, e.trans hq.symm⟩)
  ·rename_i hq
   rw [List.filter_cons, if_pos (by simp [hq])]
   exact ((upd_perm nd.2).cons q).trans (.swap _ _ _)
theorem ins_perm (x : Pr) : ∀ {l : List Pr}, Sorted l → (M.ins x l).Perm (x :: l.filter fun q => !decide (q.key = x.key))
 | [], _ => by simp [M.ins]
 | q :: l, s => by
  have s' := List.pairwise_cons.1 s
  unfold M.ins
  split
  ·rename_i h
   have hq := M.lt_ne h
   rw [List.filter_cons, if_pos (by simp [hq])]
   exact ((ins_perm x s'.2).cons q).trans (.swap _ _ _)
  ·rename_i h
   split
   ·rename_i h2
    rw [List.filter_cons, if_neg (by simp [h2]), List.filter_eq_self.2 fun p hp => ?_]
    have := M.lt_ne (s'.1 p hp)
    simp only [Bool.not_eq_true', decide_eq_false_iff_not]
    intro e
    exact this (h2.trans e.symm)
   ·rename_i h2
    have hx : sLt x.key q.key = true := by
     cases h3 : sLt x.key q.key
     ·exact absurd (sLt_tri (by simpa using h) h3) h2
     ·rfl
    rw [List.filter_eq_self.2 fun p hp => ?_]
    simp only [Bool.not_eq_true', decide_eq_false_iff_not]
    intro e
    rcases List.mem_cons.1 hp with rfl | hp
    ·exact h2 e
    ·have := sLt_trans hx (s'.1 p hp)
     exact M.lt_ne this e.symm
theorem beside_perm {lm : List (ByteArray × Value)} {fr : List Pr} {x : Pr} (hp : lm.Perm (fr.map fP)) (s : Sorted fr) (nd : (lm.map (·.1)).Nodup) : (updM x.key (.int .i64 (szN x : Int)) lm).Perm ((M.ins x fr).map fP) := by
 refine (upd_perm nd).trans ?_
 refine List.Perm.trans ?_ ((ins_perm x s).map fP).symm
 rw [List.map_cons]
 refine List.Perm.cons _ ?_
 refine (hp.filter _).trans ?_
 rw [List.filter_map]
 exact .refl _
def vN : Value → Nat
 | .int _ n => n.toNat
 | _ => 0
def sumV (l : List (ByteArray × Value)) : Nat := (l.map fun p => vN p.2).sum
theorem sumV_cons (p : ByteArray × Value) (l : List (ByteArray × Value)) : sumV (p :: l) = vN p.2 + sumV l := by simp [sumV]
theorem sum_perm {l m : List Nat} (h : l.Perm m) : l.sum = m.sum := by
 induction h with
 | nil => rfl
 | cons x _ ih => simp [ih]
 | swap x y l => simp only [List.sum_cons]; omega
 | trans _ _ h1 h2 => exact h1.trans h2
theorem sumV_perm {l m : List (ByteArray × Value)} (h : l.Perm m) : sumV l = sumV m := sum_perm (h.map _)
theorem sumV_fP (fr : List Pr) : sumV (fr.map fP) = M.sumSz fr := by
 induction fr with
 | nil => rfl
 | cons x l ih =>
  rw [List.map_cons, sumV_cons, ih]
  unfold M.sumSz
  rw [List.map_cons, List.sum_cons]
  show (szN x : Int).toNat + _ = _
  unfold szN
  omega
theorem sum_filter {p : Pr → Bool} : ∀ l : List Pr, M.sumSz (l.filter p) ≤ M.sumSz l
 | [] => Nat.le_refl _
 | x :: l => by
  have := sum_filter (p := p) l
  unfold M.sumSz at *
  rw [List.filter_cons]
  split <;> simp only [List.map_cons, List.sum_cons] <;> omega
theorem sum_ins (x : Pr) {fr : List Pr} (s : Sorted fr) : M.sumSz (M.ins x fr) ≤ M.sumSz fr + szN x := by
 have h1 := sumV_perm ((ins_perm x s).map fP)
 rw [sumV_fP, sumV_fP] at h1
 rw [h1]
 have h2 := sum_filter (p := fun q => !decide (q.key = x.key)) fr
 have h3 : M.sumSz (x :: fr.filter fun q => !decide (q.key = x.key)) = szN x + M.sumSz (fr.filter fun q => !decide (q.key = x.key)) := by unfold M.sumSz szN; simp
 omega
theorem tmod_bound (a : Int) : -3000 < a.tmod 3000 ∧ a.tmod 3000 < 3000 := by
 have h := Int.natAbs_tmod a 3000
 have h2 : (a.natAbs % (3000 : Int).natAbs) < 3000 := Nat.mod_lt _ (by decide)
 omega
theorem size_n (a : Int) : ∃ n : Nat, n < 3000 ∧ (IntKind.wrap .i64 ((a.tmod (3000 : Int)) + (3000 : Int))).tmod (3000 : Int) = (n : Int) := by
 obtain ⟨h1, h2⟩ := tmod_bound a
 have e : IntKind.wrap .i64 ((a.tmod (3000 : Int)) + (3000 : Int)) = a.tmod 3000 + 3000 := wrap_i64 (by omega) (by omega)
 rw [e]
 have h3 := Int.tmod_nonneg (a := a.tmod 3000 + 3000) 3000 (by omega)
 have h4 := (tmod_bound (a.tmod 3000 + 3000)).2
 exact ⟨((a.tmod 3000 + 3000).tmod 3000).toNat, by omega, by omega⟩
theorem P_msi' : P.underlying t_map_string_int = some (.map t_string t_int) := by kernel_rfl
def budH : Bud := ⟨1000, 0, 400, by decide, by decide, by decide⟩
theorem LsmShapes_ok {A : Amb} {h : Heap} {sizes : Sl} {ns : List Int} {R : Value → Heap → Prop} (E : Evn h) (v : View IntE h sizes ns) (H : ∀ h', Ext h h' → R (.bool true) h') : HCalls A P f_wherrylaw09_LsmShapes #[.slice sizes.p sizes.len sizes.cap] h R := by
 refine ok_wherrylaw09_LsmShapes ?_
 unfold F_wherrylaw09_LsmShapes
 refine awake_ok E fun h1 x1 => ⟨_, rfl, PIf.no rfl ?_⟩
 rw [v.len]
 refine PIf.intro (fun hq => H h1 x1) (fun hq => ?_)
 have hcl : ns.length ≤ 100 := by have := of_decide_eq_false hq; omega
 refine bNew_ok fun b h2 Sb B2 x2 f2 => ⟨_, rfl, ?_⟩
 have x02 := x1.trans x2
 have sz1 := x1.size
 refine start_ok (B := budH) E B2 x02 (fun c hc => by have := f2 c hc; omega) rfl rfl (fun n => rfl) (fun n => rfl) (fun x hx => absurd rfl hx) (by decide) (by decide) fun h3 q3 k3 st3 m3 D3 eb3 S3 fu3 mp3 _ md3 kk3 => ⟨_, _, rfl, PIf.no rfl ?_⟩
 have fr3 : st3.fr = [] := by
  have := S3.disk.frlen S3.lim
  exact List.eq_nil_of_length_eq_zero (by omega)
 have ts3 : st3.ts.length ≤ 3 := by have := S3.lim.cnt; omega
 have hg3 : h.size ≤ h3.size := S3.mem.ext.size
 refine New.mk fun h4 _ hb4 x4 s4 => ?_
 refine Loop.rule (fun mm x hh => ∃ (i : Nat) (q : Hp) (k : Nat → Nat) (st : Db) (m : Bx) (D : Disk) (bm : Nat) (lm : List (ByteArray × Value)), x = (some bm, (i : Int), ()) ∧ q.d = q3.d ∧ StoreAt budH h hh q k st m D (1 + 3 * i) i ∧ m.fuel = -1 ∧ MapS hh bm lm ∧ k bm = 0 ∧ h.size ≤ bm ∧ lm.Perm (st.fr.map fP) ∧ M.sumSz st.fr < 4096 ∧ st.ts.length ≤ 3 ∧ i ≤ ns.length ∧ mm = ns.length - i) ?_
  ⟨0, q3, k3, st3, m3, D3, h3.size, [], rfl, rfl, S3.on x4, fu3, MapS.empty hb4, S3.free (Nat.le_refl _), hg3, by rw [fr3]; exact .refl _, by rw [fr3]; decide, ts3, Nat.zero_le _, rfl⟩
 rintro K mm _ hh ⟨i, q, k, st, m, D, bm, lm, rfl, ed, S, fu, Mm, kb, gb, hp, hsz, hts, hi, rfl⟩ hK
 dsimp only
 rw [← ed]
 refine PIf.intro (fun hq => ?_) (fun hq => H hh S.mem.ext)
 have hil : i < ns.length := by have := of_decide_eq_true hq; omega
 have hget : ns[i]? = some ns[i] := List.getElem?_eq_getElem hil
 generalize ns[i] = sz at *
 rw [← v.len]
 refine (v.ext S.mem.ext).idx hget fun a _ c0 => ?_
 refine LoadI.mk c0.int ?_
 obtain ⟨n, hn, en⟩ := size_n sz
 rw [en]
 have e50 : IntKind.wrap .u8 ((i : Int).tmod (50 : Int)) = ((byteN (i % 50)).toNat : Int) := by
  rw [show (i : Int).tmod (50 : Int) = ((i % 50 : Nat) : Int) from rfl, wrap_u8, byteN_nat (by omega)]
  omega
 refine New.mk fun h5 _ hb5 x5 s5 => ?_
 rw [e50] at hb5
 have v5 : View ByteE h5 ⟨some ⟨hh.size, 0, none⟩, 1, 1⟩ [byteN (i % 50)] := (Own.lit (E := ByteE) (l := [byteN (i % 50)]) hb5 rfl (by simp [maxLen])).view
 refine bytes_str (s := ⟨some ⟨hh.size, 0, none⟩, 1, 1⟩) P_slu8 P_u8 P_str v5 ⟨_, rfl, ?_⟩
 have ks : (strL [byteN (i % 50)]).size = 1 := strL_size _
 have k1 : (⟨#[107]⟩ : ByteArray).size = 1 := rfl
 refine ⟨by rw [k1, ks]; decide, ?_⟩
 have hkey : ((⟨#[107]⟩ : ByteArray) ++ strL [byteN (i % 50)]).size = 2 := by rw [ByteArray.size_append, k1, ks]
 generalize ((⟨#[107]⟩ : ByteArray) ++ strL [byteN (i % 50)]) = key at *
 refine make_ok (E := ByteE) (x0 := 0) (v := .int .u8 0) und_sl_u8 info_u8 rfl rfl rfl (by omega) (by simp only [maxLen]; omega) fun h6 o6 x6 s6 => ?_
 refine bytes_str (s := ⟨some ⟨h5.size, 0, none⟩, n, n⟩) P_slu8 P_u8 P_str o6.view ⟨_, rfl, ?_⟩
 have vs : (strL (List.replicate n 0)).size = n := by rw [strL_size]; simp
 generalize strL (List.replicate n 0) = val at *
 refine New.mk fun h7 _ hb7 x7 s7 => ?_
 have x07 := (x5.trans x6).trans x7
 have S7 := S.on x07
 have v7 : View PairE h7 ⟨some ⟨h6.size, 0, none⟩, 1, 1⟩ [⟨key, val, false⟩] := (Own.lit (E := PairE) (l := [⟨key, val, false⟩]) hb7 rfl (by simp [maxLen])).view
 have okx : PrOk ⟨key, val, false⟩ := ⟨by show key.size ≠ 0; omega, by show key.size ≤ 64; omega, by show val.size ≤ 8192; omega, fun h => by cases h⟩
 have hck : checkL [⟨key, val, false⟩] = 0 := by
  unfold checkL
  rw [if_neg (by simp), if_neg (by simp)]
  unfold firstW
  rw [if_neg (by simp [wrong_of okx])]
  rfl
 refine Write_ok (B := budH) (s := ⟨some ⟨h6.size, 0, none⟩, 1, 1⟩) E S7 (by show 1 + 3 * i + 3 ≤ 400; omega) v7 (fun _ b hb => by
  have e : h6.size = b := by simpa [Sl.blk] using hb
  subst e
  exact ⟨by omega, S.free (by have := x5.size; have := x6.size; omega)⟩) (fun _ => by show i + 1 ≤ 1000; omega) (fun hne => absurd hck hne) (fun _ h' m' fe => absurd fu fe.fuel) (fun _ h' m' fe => absurd fu fe.fuel) fun _ h8 q8 k8 st8 m8 D8 ed8 eb8 S8 sty8 wr8 _ md8 kk8 => ⟨_, rfl, PIf.no rfl ?_⟩
 have hbm := Mm.lt
 have sz07 := x07.size
 have kb8 : k8 bm = 0 := Decidable.byContradiction fun h3 => by
  rcases kk8 bm h3 with h4 | h4
  ·exact h4 kb
  ·omega
 have M8 : MapS h8 bm lm := (Mm.mod x07 fun h => h).mod md8 (by rw [kb]; simp)
 have eput : putsL st.fr [⟨key, val, false⟩] = M.ins ⟨key, val, false⟩ st.fr := M.putL_good (wrong_of okx)
 have hnd : (lm.map (·.1)).Nodup := by
  obtain ⟨es, clock, _, mo⟩ := Mm
  exact mo.nodup
 have hp2 := beside_perm (x := ⟨key, val, false⟩) hp S.mem.fresh.sorted hnd
 obtain ⟨l1, l2, l3, l4⟩ := S.frlen
 have hll : lm.length ≤ 1000000 := by have := hp.length_eq; simp only [List.length_map] at this; omega
 have eszN : IntKind.wrap .i64 ((key.size : Int) + ((n : Nat) : Int)) = (szN ⟨key, val, false⟩ : Int) := by
  rw [wrap_i64 (by omega) (by omega)]
  show _ = ((key.size + val.size : Nat) : Int)
  rw [vs]; omega
 rw [eszN]
 refine update_ok P_msi' P_str M8 (by simp [maxLen]; omega) (by simp [maxLen]; omega) fun h9 M9 md9 s9 => ?_
 have S9 := S8.beside md9 fun c hc => by subst hc; exact ⟨kb8, gb⟩
 have eput' : M.ins ⟨key, val, false⟩ st.fr = putsL st.fr [⟨key, val, false⟩] := eput.symm
 rw [show (⟨key, val, false⟩ : Pr).key = key from rfl] at hp2
 generalize updM key (.int .i64 (szN ⟨key, val, false⟩ : Int)) lm = lm2 at *
 rw [eput'] at hp2
 have hfull := wr8.full
 have hless := wr8.less
 have hsum2 : M.sumSz (putsL st.fr [⟨key, val, false⟩]) ≤ 8000 := by
  have h1 := sum_ins ⟨key, val, false⟩ S.mem.fresh.sorted
  rw [eput]
  have h2 : szN ⟨key, val, false⟩ = key.size + val.size := rfl
  omega
 generalize putsL st.fr [⟨key, val, false⟩] = fr2 at *
 have hT : sumV lm2 = M.sumSz fr2 := by rw [sumV_perm hp2, sumV_fP]
 refine rangeS_ok P_msi' M9 fun h10 I10 x10 s10 => ⟨_, rfl, ?_⟩
 have S10 := S9.on x10
 have kr : k8 h9.size = 0 := S9.free (Nat.le_refl _)
 have gr : h.size ≤ h9.size := S9.mem.ext.size
 have M10 : MapS h10 bm lm2 := M9.mod x10 fun h => h
 have hbr : bm ≠ h9.size := by have := M9.lt; omega
 generalize h9.size = r at *
 refine Loop.rule (fun mm x h' => ∃ L, x = (((M.sumSz fr2 - sumV L : Nat) : Int), ()) ∧ MapIterS h' r bm lm2 L ∧ StoreAt budH h h' q8 k8 st8 m8 D8 (1 + 3 * i + 3) (i + 1) ∧ MapS h' bm lm2 ∧ sumV L ≤ M.sumSz fr2 ∧ (∀ p ∈ L, ∃ x, p = fP x) ∧ mm = L.length) ?_
  ⟨lm2, by rw [hT, Nat.sub_self]; rfl, I10, S10, M10, by omega, fun p hp => by
   obtain ⟨x, _, e⟩ := List.mem_map.1 (hp2.mem_iff.1 hp); exact ⟨x, e.symm⟩, rfl⟩
 rintro K1 mm _ h11 ⟨L, rfl, I, S11, M11, hsL, hL, rfl⟩ hK1
 dsimp only
 refine nextS_ok I (fun h0 => .inl ⟨rfl, ?_⟩) (fun p L' h12 hperm I12 St12 md12 => .inr ⟨_, _, rfl, ?_⟩)
 ·subst h0
  clear hK1
  refine Join.mk fun K2 hK2 => ?_
  have fin : ∀ h' bm' lm', StoreAt budH h h' q8 k8 st8 m8 D8 (1 + 3 * i + 3) (i + 1) → MapS h' bm' lm' → k8 bm' = 0 → h.size ≤ bm' → lm'.Perm (st8.fr.map fP) → M.sumSz st8.fr < 4096 → st8.ts.length ≤ 3 → K2 (some bm', ()) h' := fun h' bm' lm' S' M' kb' gb' hp' hs' ht' => by
   refine hK2 _ _ ?_
   dsimp only
   rw [← ed8]
   refine Shape_ok S'.mem ⟨_, _, rfl, ?_⟩
   refine Join.mk fun K3 hK3 => mapLen_ok P_msi' M' ⟨_, rfl, ?_⟩
   have hlen := hp'.length_eq
   simp only [List.length_map] at hlen
   refine PIf.no (by rw [hlen]; simp) (hK3 _ _ (PIf.no (by simp; omega) ?_))
   rw [wrap_succ (by omega)]
   exact hK (ns.length - (i + 1)) _ _ (by omega) ⟨i + 1, q8, k8, st8, m8, D8, bm', lm', rfl, ed8.trans ed, S'.put (by omega) (Nat.le_refl _) (by show i + 1 ≤ 1000; omega), sty8.calm fu, M', kb', gb', hp', hs', ht', hil, rfl⟩
  have e0 : ((M.sumSz fr2 - sumV [] : Nat) : Int) = (M.sumSz fr2 : Int) := by simp [sumV]
  rw [e0]
  refine PIf.intro (fun hge => ?_) (fun hlt => ?_)
  ·have hge : 4096 ≤ M.sumSz fr2 := by have := of_decide_eq_true hge; omega
   obtain ⟨f1, f3⟩ := hfull hge
   refine New.mk fun h13 _ hb13 x13 s13 => ?_
   exact fin h13 _ [] (S11.on x13) (MapS.empty hb13) (S11.free (Nat.le_refl _)) S11.mem.ext.size (by rw [f1]; exact .refl _) (by rw [f1]; decide) (by omega)
  ·have hlt : M.sumSz fr2 < 4096 := by have := of_decide_eq_false hlt; omega
   obtain ⟨f1, f3⟩ := hless hlt
   exact fin h11 bm lm2 S11 M11 kb8 gb (by rw [f1]; exact hp2) (by rw [f1]; exact hlt) (by rw [f3]; exact hts)
 ·have hpm : p ∈ L := hperm.mem_iff.2 List.mem_cons_self
  obtain ⟨x, rfl⟩ := hL p hpm
  refine entry_ok St12 ⟨_, _, rfl, (szN x : Int), rfl, ?_⟩
  have hs := sumV_perm hperm
  rw [sumV_cons] at hs
  have hv : vN (fP x).2 = szN x := by show (szN x : Int).toNat = _; omega
  rw [hv] at hs
  have hlen := hperm.length_eq
  simp only [List.length_cons] at hlen
  have ew : IntKind.wrap .i64 (((M.sumSz fr2 - sumV L : Nat) : Int) + (szN x : Int)) = ((M.sumSz fr2 - sumV L' : Nat) : Int) := by
   rw [wrap_i64 (by omega) (by omega)]; omega
  rw [ew]
  refine hK1 L'.length _ _ (by omega) ⟨L', rfl, I12, S11.beside md12 (fun c hc => by subst hc; exact ⟨kr, gr⟩), M11.mod md12 hbr, by omega, fun p hp => hL p (hperm.mem_iff.2 (List.mem_cons_of_mem _ hp)), rfl⟩
end Go.Lf.G

