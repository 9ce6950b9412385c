/-
  The statements about merged sequences, over the formulas.
-/
import Derived.Test.YtdaodhcpiafgfaaLfM6
set_option maxRecDepth 100000
namespace Go.Lf.G
open Go

theorem sLt_lit (a b : List UInt8) : sLt ⟨⟨a⟩⟩ ⟨⟨b⟩⟩ = Op.bytesLess a b := by simp [sLt, ByteArray.toList_eq]
theorem key_lit (a b : List UInt8) : ((⟨⟨a⟩⟩ : ByteArray) = ⟨⟨b⟩⟩) ↔ a = b := by constructor <;> (intro h; simpa using h)

def pa1 : Pr := ⟨⟨#[97]⟩, ⟨#[49]⟩, false⟩
def pa2 : Pr := ⟨⟨#[97]⟩, ⟨#[50]⟩, false⟩
def pb : Pr := ⟨⟨#[98]⟩, ⟨#[]⟩, false⟩

theorem awake_l : refAllL [[pa1], [], [pa2, pb]] = [pa1, pb] := by
  have g1 : wrongP pa1 = 0 := by decide
  have g2 : wrongP pa2 = 0 := by decide
  have g3 : wrongP pb = 0 := by decide
  have e1 : sLt pa2.key pb.key = true := by rw [show pa2.key = ⟨⟨[97]⟩⟩ from rfl, show pb.key = ⟨⟨[98]⟩⟩ from rfl, sLt_lit]; rfl
  have e2 : sLt pa2.key pa1.key = false := sLt_irrefl _
  simp [refAllL, putsL, putL_good g1, putL_good g2, putL_good g3, ins, e1, e2]
  rfl

theorem awake_o : OkL [[pa1], [], [pa2, pb]] := by
  have g1 : wrongP pa1 = 0 := by decide
  have g2 : wrongP pa2 = 0 := by decide
  have g3 : wrongP pb = 0 := by decide
  have e1 : sLt pa2.key pb.key = true := by rw [show pa2.key = ⟨⟨[97]⟩⟩ from rfl, show pb.key = ⟨⟨[98]⟩⟩ from rfl, sLt_lit]; rfl
  constructor
  · intro l hl
    simp at hl
    rcases hl with rfl | rfl | rfl
    · exact List.pairwise_singleton _ _
    · exact List.Pairwise.nil
    · exact List.pairwise_cons.2 ⟨fun y hy => by simp at hy; subst hy; exact e1, List.pairwise_singleton _ _⟩
  · intro l hl
    simp at hl
    rcases hl with rfl | rfl | rfl
    · intro x hx; simp at hx; subst hx; exact g1
    · intro x hx; cases hx
    · intro x hx; simp at hx; rcases hx with rfl | rfl
      · exact g2
      · exact g3

theorem awake_ok {A : Amb} {h : Heap} {R : Value → Heap → Prop} (H : ∀ h', Ext h h' → R (.bool true) h') : HCalls A P f_wherrylaw08_awake #[] h R := by
  refine ok_wherrylaw08_awake ?_
  unfold F_wherrylaw08_awake
  refine New.mk fun h1 _ hb1 x1 hs1 => ?_
  have o1 : Own PairE t_api_Pair h1 ⟨some ⟨h.size, 0, none⟩, 1, 1⟩ [pa1] := Own.lit (E := PairE) (l := [pa1]) hb1 rfl (by simp [maxLen])
  refine Values_ok' (X := fun _ => False) (s := ⟨some ⟨h.size, 0, none⟩, 1, 1⟩) o1.view (by simp) (fun _ _ h => h) (fun _ h => h.elim) fun f1 h2 it1 x2 _ => ⟨_, rfl, ?_⟩
  refine New.mk fun h3 _ hb3 x3 hs3 => ?_
  have o3 : Own PairE t_api_Pair h3 ⟨some ⟨h2.size, 0, none⟩, 2, 2⟩ [pa2, pb] := Own.lit (E := PairE) (l := [pa2, pb]) hb3 rfl (by simp [maxLen])
  refine Values_ok' (X := fun _ => False) (s := ⟨some ⟨h2.size, 0, none⟩, 2, 2⟩) o3.view (by simp) (fun _ _ h => h) (fun _ h => h.elim) fun f2 h4 it2 x4 _ => ⟨_, rfl, ?_⟩
  refine OneK.mk it1.one.1 (OneK.mk it2.one.1 ?_)
  refine New.mk fun h5 _ hb5 x5 hs5 => ?_
  have o5 : Own ValE t_iter_Seq_wherry_api_Pair h5 ⟨some ⟨h4.size, 0, none⟩, 3, 3⟩ [⟨f1, it1.one.1⟩, ⟨.nilFunc, rfl⟩, ⟨f2, it2.one.1⟩] := Own.lit (E := ValE) (l := [⟨f1, it1.one.1⟩, ⟨.nilFunc, rfl⟩, ⟨f2, it2.one.1⟩]) hb5 rfl (by simp [maxLen])
  have i1 := it1.later ((x3.trans x4).trans x5) (fun _ _ h => h)
  have i2 := it2.later x5 (fun _ _ h => h)
  refine All_ok (X := fun _ => False) (s := ⟨some ⟨h4.size, 0, none⟩, 3, 3⟩) (ls := [[pa1], [], [pa2, pb]]) ⟨_, o5.view, fun c hc => ⟨o5.lt hc, id⟩, rfl, ?_⟩ (fun _ h => h.elim) (by simp) awake_o fun fv h6 it x6 _ => ⟨_, rfl, ?_⟩
  · intro i v l h1 h2
    rcases i with _ | _ | _ | i
    · cases h1; cases h2; exact .inr ⟨i1, by simp⟩
    · cases h1; cases h2; exact .inl ⟨rfl, rfl⟩
    · cases h1; cases h2; exact .inr ⟨i2, by simp⟩
    · simp at h1
  · rw [awake_l] at it
    refine ⟨it.one.2.1, PIf.no it.one.2.2 ?_⟩
    refine Collect_ok it (fun _ _ => rfl) (by simp) fun s h7 o7 _ x7 => ⟨s, rfl, ?_⟩
    have hl := o7.len
    refine PIf.yes (by simp [hl]) ?_
    refine o7.view.idx (i := 0) (x := pa1) rfl fun a _ c => ?_
    refine LoadS.mk c.pair.2.1 (PIf.yes (by rw [sEq_iff]; rfl) ?_)
    refine o7.view.idx (i := 1) (x := pb) rfl fun a _ c => ?_
    refine LoadS.mk c.pair.1 ?_
    have : sEq pb.key (⟨#[98]⟩ : ByteArray) = true := by rw [sEq_iff]; simp [pb]
    show R (.bool (sEq pb.key (⟨#[98]⟩ : ByteArray))) h7
    rw [this]
    exact H h7 ((((((x1.trans x2).trans x3).trans x4).trans x5).trans x6).trans x7)

theorem OkL_ord (ls : List (List Pr)) : OkL (ls.map ordL) :=
  ⟨fun l hl => by obtain ⟨l', _, rfl⟩ := List.mem_map.1 hl; exact ordL_sorted l', fun l hl => by obtain ⟨l', _, rfl⟩ := List.mem_map.1 hl; exact ordL_good l'⟩
theorem total_ord : ∀ ls, total (ls.map ordL) ≤ total ls
  | [] => Nat.le_refl _
  | l :: ls => by have := total_ord ls; have := ordL_len l; rw [List.map_cons, total_cons, total_cons]; omega

theorem MergeAll_ok {A : Amb} {h : Heap} {s : Sl} {ls : List (List Pr)} {R : Value → Heap → Prop} (v : LV h s ls) (hl : ls.length ≤ 1099511627776) (ht : total ls < 1099511627776) (H : ∀ h', Ext h h' → R (.bool true) h') :
    HCalls A P f_wherrylaw08_MergeAll #[.slice s.p s.len s.cap] h R := by
  refine ok_wherrylaw08_MergeAll ?_
  unfold F_wherrylaw08_MergeAll
  refine awake_ok fun h1 x1 => ⟨_, rfl, PIf.no rfl ?_⟩
  refine ordered_ok (v.ext x1) hl (by omega) fun t h2 v2 x2 => ⟨t, rfl, ?_⟩
  have hto := total_ord ls
  refine seqs_ok (X := fun c => c < h1.size) v2 (fun c hc => by have := x2.size; omega) (by simpa using hl) (by omega) fun u h3 q3 x3 => ⟨u, rfl, ?_⟩
  refine All_ok q3 (fun c hc => by have := x2.size; have := x3.size; omega) (by simpa using hl) (OkL_ord ls) fun fv h4 it4 x4 _ => ⟨_, rfl, ?_⟩
  have hrl := refAllL_len (ls.map ordL)
  refine Collect_ok it4 (fun _ _ => rfl) (by omega) fun w h5 o5 _ x5 => ⟨w, rfl, ?_⟩
  have v5 := (v2.lv.ext x3).ext (Mod.trans x4 x5)
  refine refAll_ok v5 (by simpa using hl) (by omega) fun z h6 o6 _ x6 => ⟨z, rfl, ?_⟩
  refine Same_ok (o5.ext x6).view o6.view (by omega) ⟨_, rfl, ?_⟩
  rw [decide_eq_true rfl]
  exact H h6 (((((x1.trans x2).trans x3).trans x4).trans x5).trans x6)

theorem refAllL_nest {ls ms : List (List Pr)} (o : OkL (ls ++ ms)) : refAllL [refAllL ls, refAllL ms] = refAllL (ls ++ ms) := by
  have ol : OkL ls := ⟨fun l hl => o.sorted l (by simp [hl]), fun l hl => o.good l (by simp [hl])⟩
  have om : OkL ms := ⟨fun l hl => o.sorted l (by simp [hl]), fun l hl => o.good l (by simp [hl])⟩
  have ob : OkL [refAllL ls, refAllL ms] := ⟨fun l hl => by simp at hl; rcases hl with rfl | rfl <;> exact refAllL_sorted _, fun l hl => by simp at hl; rcases hl with rfl | rfl <;> exact refAllL_good _⟩
  refine (refAllL_sorted _).ext (refAllL_sorted _) fun k => ?_
  rw [refAllL_find k ob, refAllL_find k o, findLs_cons, findLs_cons, refAllL_find k ol, refAllL_find k om]
  have : findLs k ([] : List (List Pr)) = none := rfl
  rw [this, Option.or_none]
  unfold findLs
  rw [List.findSome?_append]

theorem LA.sub {X : Nat → Prop} {h : Heap} {s : Sl} {ls : List (List Pr)} (v : LA X h s ls) {lo hi : Nat} (h1 : lo ≤ hi) (h2 : hi ≤ ls.length) : LA X h ⟨slOff s.p s.cap lo 1, hi - lo, s.cap - lo⟩ ((ls.take hi).drop lo) := by
  obtain ⟨sls, v, hb, hl, hr⟩ := v
  refine ⟨(sls.take hi).drop lo, v.sub h1 (by omega), fun c hc => hb c (slOff_blk hc), by simp [hl], fun i sl l h3 h4 => ?_⟩
  rw [List.getElem?_drop, List.getElem?_take] at h3 h4
  split at h3
  · rename_i hlt
    rw [if_pos hlt] at h4
    exact hr _ _ _ h3 h4
  · cases h3

set_option maxHeartbeats 400000 in
theorem MergeNested_ok {A : Amb} {h : Heap} {s : Sl} {ls : List (List Pr)} {cut : Int} {R : Value → Heap → Prop} (v : LV h s ls) (hl : ls.length ≤ 1099511627776) (ht : total ls < 1099511627776) (H : ∀ h', Ext h h' → R (.bool true) h') :
    HCalls A P f_wherrylaw08_MergeNested #[.slice s.p s.len s.cap, .int .i64 cut] h R := by
  refine ok_wherrylaw08_MergeNested ?_
  unfold F_wherrylaw08_MergeNested
  refine awake_ok fun h1 x1 => ⟨_, rfl, PIf.no rfl ?_⟩
  refine ordered_ok (v.ext x1) hl (by omega) fun t h2 v2 x2 => ⟨t, rfl, ?_⟩
  have hto := total_ord ls
  have htl : t.len = ls.length := by
    obtain ⟨sls, v3, _, h3, _⟩ := v2
    have := v3.len; simp at h3; omega
  have htc : t.len ≤ t.cap := by
    obtain ⟨sls, v3, _, h3, _⟩ := v2
    exact v3.cap
  -- the cut
  have hw1 : IntKind.wrap .i64 (((t.len : Nat) : Int) + (1 : Int)) = ((ls.length + 1 : Nat) : Int) := by rw [htl]; exact wrap_succ (by omega)
  rw [hw1]
  have hr1 : -((ls.length + 1 : Nat) : Int) < cut.tmod ((ls.length + 1 : Nat) : Int) ∧ cut.tmod ((ls.length + 1 : Nat) : Int) < ((ls.length + 1 : Nat) : Int) := by
    constructor
    · have := Int.lt_tmod_of_pos cut (b := ((ls.length + 1 : Nat) : Int)) (by omega); omega
    · exact Int.tmod_lt_of_pos cut (by omega)
  generalize cut.tmod ((ls.length + 1 : Nat) : Int) = m at hr1
  have hw2 : ∃ n : Nat, m + ((ls.length : Nat) : Int) = (n : Int) - 0 ∧ n < 2 * 1099511627776 + 1 := ⟨(m + ls.length).toNat, by omega, by omega⟩
  obtain ⟨n, hn, hnb⟩ := hw2
  rw [htl]
  have hw3 : IntKind.wrap .i64 (m + ((ls.length : Nat) : Int)) = (n : Int) := by rw [hn, Int.sub_zero]; exact wrap_nat (by omega)
  rw [hw3, wrap_succ (by omega)]
  have hr2 : ((n + 1 : Nat) : Int).tmod ((ls.length + 1 : Nat) : Int) = (((n + 1) % (ls.length + 1) : Nat) : Int) := by
    rw [Int.tmod_eq_emod_of_nonneg (by omega)]; exact (Int.natCast_emod _ _).symm
  rw [hr2]
  have hk : (n + 1) % (ls.length + 1) ≤ ls.length := by have := Nat.mod_lt (n + 1) (show 0 < ls.length + 1 by omega); omega
  generalize (n + 1) % (ls.length + 1) = k at hk
  rw [Int.toNat_natCast]
  refine ⟨by omega, by omega, ⟨by omega, by rw [htl] at htc; omega⟩, ?_⟩
  have vA := v2.sub (lo := 0) (hi := k) (by omega) (by simpa using hk)
  have hX2 : ∀ c, c < h1.size → c < h2.size := fun c hc => by have := x2.size; omega
  have ho := OkL_ord ls
  have hoA : OkL ((ls.map ordL).take k) := ⟨fun l hl => ho.sorted l (List.mem_of_mem_take hl), fun l hl => ho.good l (List.mem_of_mem_take hl)⟩
  have hoB : OkL ((ls.map ordL).drop k) := ⟨fun l hl => ho.sorted l (List.mem_of_mem_drop hl), fun l hl => ho.good l (List.mem_of_mem_drop hl)⟩
  have htA := total_take (ls.map ordL) k
  have htB := total_drop (ls.map ordL) k
  refine seqs_ok (X := fun c => c < h1.size) (s := ⟨slOff t.p t.cap 0 1, k - 0, t.cap - 0⟩) vA hX2 (by simp; omega) (by rw [List.drop_zero]; omega) fun u h3 q3 x3 => ⟨u, rfl, ?_⟩
  rw [List.drop_zero] at q3
  refine All_ok q3 (fun c hc => by have := hX2 c hc; have := x3.size; omega) (by simp; omega) hoA fun fA h4 itA x4 _ => ⟨_, rfl, ?_⟩
  refine ⟨⟨by omega, by omega⟩, ?_⟩
  have vB := (v2.ext (x3.trans x4)).sub (lo := k) (hi := ls.length) hk (by simp)
  have htk : (ls.map ordL).take ls.length = ls.map ordL := List.take_of_length_le (by simp)
  rw [htk] at vB
  refine seqs_ok (X := fun c => c < h1.size) (s := ⟨slOff t.p t.cap k 1, ls.length - k, t.cap - k⟩) vB (fun c hc => by have := hX2 c hc; have := x3.size; have := x4.size; omega) (by simp; omega) (by omega) fun u2 h5 q5 x5 => ⟨u2, rfl, ?_⟩
  refine All_ok q5 (fun c hc => by have := hX2 c hc; have := x3.size; have := x4.size; have := x5.size; omega) (by simp; omega) hoB fun fB h6 itB x6 _ => ⟨_, rfl, ?_⟩
  refine OneK.mk itA.one.1 (OneK.mk itB.one.1 ?_)
  refine New.mk fun h7 _ hb7 x7 hs7 => ?_
  have o7 : Own ValE t_iter_Seq_wherry_api_Pair h7 ⟨some ⟨h6.size, 0, none⟩, 2, 2⟩ [⟨fA, itA.one.1⟩, ⟨fB, itB.one.1⟩] := Own.lit (E := ValE) (l := [⟨fA, itA.one.1⟩, ⟨fB, itB.one.1⟩]) hb7 rfl (by simp [maxLen])
  have iA := itA.later ((x5.trans x6).trans x7) (fun _ _ h => h.elim)
  have iB := itB.later x7 (fun _ _ h => h.elim)
  have hrA := refAllL_len ((ls.map ordL).take k)
  have hrB := refAllL_len ((ls.map ordL).drop k)
  have hoAB : OkL [refAllL ((ls.map ordL).take k), refAllL ((ls.map ordL).drop k)] :=
    ⟨fun l hl => by simp only [List.mem_cons, List.not_mem_nil, or_false] at hl; rcases hl with rfl | rfl <;> exact refAllL_sorted _, fun l hl => by simp only [List.mem_cons, List.not_mem_nil, or_false] at hl; rcases hl with rfl | rfl <;> exact refAllL_good _⟩
  have hsz6 : h1.size ≤ h6.size := by have := x2.size; have := x3.size; have := x4.size; have := x5.size; have := x6.size; omega
  refine All_ok (X := fun c => c < h1.size) (s := ⟨some ⟨h6.size, 0, none⟩, 2, 2⟩) (ls := [refAllL ((ls.map ordL).take k), refAllL ((ls.map ordL).drop k)]) ⟨_, o7.view, fun c hc => ⟨o7.lt hc, by simp [Sl.blk] at hc; omega⟩, rfl, ?_⟩ (fun c hc => by omega) (by simp) hoAB fun fv h8 it8 x8 _ => ⟨_, rfl, ?_⟩
  · intro i v l h1 h2
    rcases i with _ | _ | i
    · cases h1; cases h2; exact .inr ⟨iA, by omega⟩
    · cases h1; cases h2; exact .inr ⟨iB, by omega⟩
    · simp at h1
  · rw [refAllL_nest (by rw [List.take_append_drop]; exact ho), List.take_append_drop] at it8
    have hrl := refAllL_len (ls.map ordL)
    refine Collect_ok it8 (fun _ _ => rfl) (by omega) fun w h9 o9 _ x9 => ⟨w, rfl, ?_⟩
    have v9 := v2.ext (((((((x3.trans x4).trans x5).trans x6).trans x7).trans x8).trans x9))
    rw [← htl]
    refine seqs_ok (X := fun c => c < h1.size) v9 (fun c hc => by have := x7.size; have := x8.size; have := x9.size; omega) (by simpa using hl) (by omega) fun u4 h10 q10 x10 => ⟨u4, rfl, ?_⟩
    refine All_ok q10 (fun c hc => by have := x7.size; have := x8.size; have := x9.size; have := x10.size; omega) (by simpa using hl) ho fun fv2 h11 it11 x11 _ => ⟨_, rfl, ?_⟩
    refine Collect_ok it11 (fun _ _ => rfl) (by omega) fun w2 h12 o12 _ x12 => ⟨w2, rfl, ?_⟩
    refine Same_ok (o9.ext ((x10.trans x11).trans x12)).view o12.view (by omega) ⟨_, rfl, ?_⟩
    rw [decide_eq_true rfl]
    exact H h12 (((((((((((x1.trans x2).trans x3).trans x4).trans x5).trans x6).trans x7).trans x8).trans x9).trans x10).trans x11).trans x12)

theorem MergeSome_ok {A : Amb} {h : Heap} {s : Sl} {l : List Pr} {vto : ByteArray} {most : Int} {R : Value → Heap → Prop} (v : View PairE h s l) (hl : l.length ≤ 1099511627776) (H : ∀ h', Ext h h' → R (.bool true) h') :
    HCalls A P f_wherrylaw08_MergeSome #[.slice s.p s.len s.cap, .string vto, .int .i64 most] h R := by
  refine ok_wherrylaw08_MergeSome ?_
  unfold F_wherrylaw08_MergeSome
  refine awake_ok fun h1 x1 => ⟨_, rfl, PIf.no rfl ?_⟩
  refine Join.mk fun K hK => ?_
  have hll : (liveL l).length ≤ 1099511627776 := by have := List.length_filter_le (fun x : Pr => !x.gone) l; unfold liveL; omega
  have hsl : (someL vto most l).length ≤ 1099511627776 := by
    have h1 := (List.takeWhile_sublist (l := l) (lowT vto)).length_le
    unfold someL; simp; omega
  have v1 := v.ext x1
  refine Values_ok' (X := fun _ => False) v1 hl (fun _ _ h => h) (fun _ h => h.elim) fun f1 h2 it1 x2 _ => ⟨_, rfl, ?_⟩
  refine Live_ok (.inr it1) fun f2 h3 it2 x3 _ => ⟨_, rfl, ?_⟩
  refine Collect_ok it2 (fun _ _ => rfl) hll fun w h4 o4 _ x4 => ⟨w, rfl, ?_⟩
  refine refLive_ok (v1.ext ((x2.trans x3).trans x4)) hl fun z h5 o5 _ x5 => ⟨z, rfl, ?_⟩
  refine Same_ok (o4.ext x5).view o5.view hll ⟨_, rfl, ?_⟩
  rw [decide_eq_true rfl]
  refine PIf.no rfl ?_
  have x15 := ((x2.trans x3).trans x4).trans x5
  refine Values_ok' (X := fun _ => False) (v1.ext x15) hl (fun _ _ h => h) (fun _ h => h.elim) fun f6 h6 it6 x6 _ => ⟨_, rfl, ?_⟩
  refine Some_ok (.inr it6) hl fun w7 h7 o7 _ x7 => ⟨w7, rfl, ?_⟩
  refine refSome_ok (v1.ext (x15.trans (x6.trans x7))) hl fun w8 h8 o8 _ x8 => ⟨w8, rfl, ?_⟩
  refine Same_ok (o7.ext x8).view o8.view hsl ⟨_, rfl, ?_⟩
  rw [decide_eq_true rfl]
  refine hK _ _ (PIf.no rfl ?_)
  refine Live_ok (S := fun _ => False) (l := []) (.inl ⟨rfl, rfl, fun _ h => h⟩) fun f9 h9 it9 x9 _ => ⟨_, rfl, ?_⟩
  refine Collect_ok it9 (fun _ _ => rfl) (by simp [liveL]) fun w10 h10 o10 _ x10 => ⟨w10, rfl, ?_⟩
  have e10 := o10.len
  refine PIf.yes (by rw [e10]; rfl) ?_
  refine Some_ok (S := fun _ => False) (l := []) (.inl ⟨rfl, rfl⟩) (by simp) fun w11 h11 o11 _ x11 => ⟨w11, rfl, ?_⟩
  have e11 := o11.len
  refine PIf.yes (by rw [e11]; simp [someL]) ?_
  refine All_ok (X := fun _ => False) (s := ⟨none, 0, 0⟩) (ls := []) ⟨[], View.nil, fun c hc => by simp [Sl.blk] at hc, rfl, fun i v l h => by simp at h⟩ (fun _ h => h.elim) (by simp) ⟨fun l h => by simp at h, fun l h => by simp at h⟩ fun f12 h12 it12 x12 _ => ⟨_, rfl, ?_⟩
  refine Collect_ok it12 (fun _ _ => rfl) (by simp [refAllL]) fun w13 h13 o13 _ x13 => ⟨w13, rfl, ?_⟩
  have e13 := o13.len
  have : (((w13.len : Nat) : Int) == (0 : Int)) = true := by rw [e13]; rfl
  rw [this]
  exact H h13 ((((((((x1.trans x15).trans (x6.trans x7)).trans x8).trans x9).trans x10).trans x11).trans x12).trans x13)
end Go.Lf.G
