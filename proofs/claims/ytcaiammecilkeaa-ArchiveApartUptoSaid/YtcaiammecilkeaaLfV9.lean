/-
  Contracts: a history is kept (chapter 20); an archive that is awake.
-/
import Derived.Test.YtcaiammecilkeaaLfV8
set_option maxRecDepth 100000
set_option linter.unusedVariables false
set_option linter.unusedSimpArgs false
namespace Go.Lf.G
open Go

def keepE (w : ByteArray) (l : List Ev) : Int := if nameOK w = true then (if (packEv l).1 ≠ 0 then (packEv l).1 else if 1048576 < (packEv l).2.length then 2 else 0) else 1
def keepD (l : List Ev) : ByteArray := strL (wrapL (packEv l).2)
theorem keep_zero {w : ByteArray} {l : List Ev} (h : keepE w l = 0) : nameOK w = true ∧ (packEv l).1 = 0 ∧ (packEv l).2.length ≤ 1048576 := by
  unfold keepE at h
  split at h
  · rename_i hn
    split at h
    · rename_i h1; exact absurd h (by omega)
    · split at h
      · cases h
      · rename_i h1 h2
        exact ⟨hn, by omega, by omega⟩
  · cases h
theorem pack_zero {l : List Ev} (h : (packEv l).1 = 0) : l.length ≤ 500 ∧ l.all evOK = true ∧ (packEv l).2 = encEvs l := by
  unfold packEv at h ⊢
  split at h
  · cases h
  · rename_i h5
    split at h
    · rename_i ha
      rw [if_neg h5, if_pos ha]
      exact ⟨by omega, ha, rfl⟩
    · cases h
theorem read_kept {m : Bx} (c : Calm m) {w : ByteArray} {l : List Ev} (hk : keepE w l = 0) (hd : ∀ e ∈ l, e.data.size ≤ 4194304) (hf : fileB m (zn w) = some (keepD l)) : readA m w = (0, l) := by
  obtain ⟨h1, h2, h3⟩ := keep_zero hk
  obtain ⟨h4, h5, h6⟩ := pack_zero h2
  have hr : readB m (zn w) = (keepD l, 0) := by rw [calm_read c, hf]
  have hn := next_wrap (l := (packEv l).2) h3 []
  rw [List.append_nil] at hn
  have hu : unpackEv (packEv l).2 = some l := by
    rw [h6]
    refine unpack_pack h4 h5 fun e he => ?_
    have := hd e he
    have := encEv_len (evOK_head (List.all_eq_true.1 h5 e he)) (by omega)
    omega
  unfold readA
  rw [if_pos h1, hr]
  simp only [keepD, bl_strL, hn, hu]
  rfl
theorem keepD_size {w : ByteArray} {l : List Ev} (h : keepE w l = 0) : (keepD l).size ≤ 1048590 := by
  obtain ⟨_, _, h3⟩ := keep_zero h
  have := putV_len10 (n := (packEv l).2.length) (by omega)
  simp only [keepD, strL_size, wrapL, List.length_append, markL_len]
  omega
theorem fWrap_all {A : Amb} {h : Heap} {l : List UInt8} {R : Value → Heap → Prop} (hl : l.length ≤ 1099511627776)
    (H : ∀ h' s n, Ext h h' → (1048576 < l.length → s = (⟨#[]⟩ : ByteArray) ∧ n = (2 : Int)) → (l.length ≤ 1048576 → s = strL (wrapL l) ∧ n = 0) → R (.tuple #[.string s, .int .i64 n]) h') : HCalls A P f_frame_Wrap #[.string (strL l)] h R :=
  fWrap_ok hl (fun h1 => H h _ _ Mod.refl (fun _ => ⟨rfl, rfl⟩) fun h2 => by omega) fun h1 h' x => H h' _ _ x (fun h2 => by omega) fun _ => ⟨rfl, rfl⟩
theorem pack_len {l : List Ev} (hl : l.length ≤ 1099511627776) (hd : ∀ e ∈ l, e.data.size ≤ 4194304) : (packEv l).2.length ≤ 1099511627776 := by
  unfold packEv
  split
  · exact Nat.zero_le _
  · rename_i h5
    split
    · rename_i ha
      have h1 := flat_le ha hd
      have h2 := putV_len10 (n := l.length) (by omega)
      have h3 : l.length * 5000000 ≤ 500 * 5000000 := Nat.mul_le_mul_right _ (by omega)
      simp only [encEvs, List.length_append]
      omega
    · exact Nat.zero_le _

theorem aKeep_ok {A : Amb} {h : Heap} {ab b : Nat} {S : Nat → Prop} {m : Bx} {w : ByteArray} {s : Sl} {l : List Ev} {T : TypeId} {R : Value → Heap → Prop} (ha : h[ab]? = some (.cells #[ptrV b] T (0, 0))) (B : IsBox h b S m) (c : Calm m) (hS : ¬ S ab)
    (hw : wtF m.files + 2000000 < 1099511627776) (hws : w.size ≤ 1099511627776) (v : View EvE h s l) (vs : ∀ c, s.blk = some c → ¬ S c ∧ c < h.size) (hl : l.length ≤ 1099511627776) (hd : ∀ e ∈ l, e.data.size ≤ 4194304)
    (H0 : keepE w l ≠ 0 → ∀ h', Ext h h' → R (.int .i64 (keepE w l)) h')
    (H1 : keepE w l = 0 → ∀ h' S' m', IsBox h' b S' m' → Calm m' → Mod S h h' → (∀ c, S' c → S c ∨ h.size ≤ c) → (∀ x, fileB m' x = if x = zn w then some (keepD l) else fileB m x) → wtF m'.files ≤ wtF m.files + 2000000 → R (.int .i64 0) h') :
    HCalls A P f_archive_Archive_Keep #[ptrV ab, .string w, .slice s.p s.len s.cap] h R := by
  refine ok_archive_Archive_Keep ?_
  unfold F_archive_Archive_Keep
  have hlt := blk_lt ha
  refine Join.mk fun K hK => PIf.no rfl (pNamed_ok ⟨_, rfl, hK _ _ ?_⟩)
  have hke : keepE w l = if nameOK w = true then (if (packEv l).1 ≠ 0 then ((packEv l).1 : Int) else if 1048576 < (packEv l).2.length then 2 else 0) else 1 := rfl
  cases hn : nameOK w with
  | false =>
    rw [hn, if_neg (by decide)] at hke
    have := H0 (by rw [hke]; decide) h Mod.refl
    rw [hke] at this
    exact PIf.yes rfl this
  | true =>
    rw [hn, if_pos rfl] at hke
    refine PIf.no rfl (ePack_ok v hl hd fun h1 x1 => ⟨_, _, rfl, ?_⟩)
    refine PIf.intro (fun q => ?_) (fun q => ?_)
    · have q : (packEv l).1 ≠ 0 := by simp at q; omega
      rw [if_pos q] at hke
      have := H0 (by rw [hke]; omega) h1 x1
      rw [hke] at this
      exact this
    have q : ¬ (packEv l).1 ≠ 0 := by simp at q; omega
    rw [if_neg q] at hke
    refine fWrap_all (pack_len hl hd) fun h2 ws wn x2 k1 k2 => ⟨_, _, rfl, ?_⟩
    by_cases hlen : 1048576 < (packEv l).2.length
    · obtain ⟨rfl, rfl⟩ := k1 hlen
      rw [if_pos hlen] at hke
      have := H0 (by rw [hke]; decide) h2 (x1.trans x2)
      rw [hke] at this
      exact PIf.yes rfl this
    · obtain ⟨rfl, rfl⟩ := k2 (by omega)
      rw [if_neg hlen] at hke
      refine PIf.no rfl ?_
      have x02 := x1.trans x2
      have ha2 := x02.blk ha (fun h => h)
      have B2 := B.ext x02
      have v2 := v.ext x02
      refine atI (LoadP.mk (hget_lit ha2 rfl) (aFile_ok hws ⟨_, rfl, hget_lit ha2 rfl, ?_⟩))
      obtain ⟨d1, d2, d3⟩ := calm_delete c (zn w)
      refine bDelete_ok B2 fun h3 S3 B3 m3 s3 => ⟨_, rfl, ?_⟩
      have hw3 := wt_delete (m := m) (zn w)
      refine Join.mk fun K1 hK1 => ?_
      have go : K1 (false, ()) h3 := by
        refine hK1 _ _ (PIf.no rfl ?_)
        have ha3 := m3.blk ha2 hS
        refine atI (LoadP.mk (hget_lit ha3 rfl) (aFile_ok hws ⟨_, rfl, hget_lit ha3 rfl, ?_⟩))
        have hsz := keepD_size hke
        obtain ⟨p1, p2, p3⟩ := calm_append d2 (k := zn w) (d := keepD l) (zn_good hn)
        refine bAppend_ok B3 (by show wtF (deleteB m (zn w)).2.files + (keepD l).size + 1 ≤ _; omega) fun h4 S4 B4 m4 s4 => ⟨_, rfl, ?_⟩
        have hw4 := wt_append B3.good (zn w) (keepD l)
        have ep1 : (appendB (deleteB m (zn w)).2 (zn w) (strL (wrapL (packEv l).2))).1 = 0 := p1
        rw [ep1]
        refine PIf.no rfl ?_
        have hS3 : ¬ S3 ab := fun hc => hS (s3 _ hc)
        have ha4 := m4.blk ha3 hS3
        refine atI (LoadP.mk (hget_lit ha4 rfl) (aFile_ok hws ⟨_, rfl, hget_lit ha4 rfl, ?_⟩))
        have hfile : fileB (appendB (deleteB m (zn w)).2 (zn w) (keepD l)).2 (zn w) = some (keepD l) := by rw [p3, if_pos rfl, d3, if_pos rfl]; simp [nil_app]
        obtain ⟨y1, y2, y3⟩ := calm_sync p2 (k := zn w) (by rw [hfile]; rfl)
        refine bSync_ok B4 fun h5 B5 m5 => ⟨_, rfl, ?_⟩
        have hw5 := wt_sync B4.good (zn w)
        have ey1 : (syncB (appendB (deleteB m (zn w)).2 (zn w) (strL (wrapL (packEv l).2))).2 (zn w)).1 = 0 := y1
        rw [ey1]
        refine PIf.no rfl ?_
        have hlt2 := x02.size
        have hlt3 := m3.size
        have hS4 : ¬ S4 ab := fun hc => by rcases s4 _ hc with h | h; exact hS3 h; omega
        have ha5 := m5.blk ha4 hS4
        have m25 : Mod S h2 h5 := (m3.trans (m4.weak fun c _ hc => s3 c hc)).then (m5.weak fun c _ hc => by rcases s4 c hc with h | h; exact .inl (s3 c h); exact .inr (by omega))
        have hfin : fileB (syncB (appendB (deleteB m (zn w)).2 (zn w) (keepD l)).2 (zn w)).2 (zn w) = some (keepD l) := by rw [y3, hfile]
        have hread := read_kept y2 hke hd hfin
        have hwt5 : wtF (syncB (appendB (deleteB m (zn w)).2 (zn w) (keepD l)).2 (zn w)).2.files ≤ wtF m.files + 2000000 := by
          have e1 : wtF (appendB (deleteB m (zn w)).2 (zn w) (keepD l)).2.files ≤ wtF (deleteB m (zn w)).2.files + (keepD l).size + 1 := hw4
          have e2 : wtF (syncB (appendB (deleteB m (zn w)).2 (zn w) (keepD l)).2 (zn w)).2.files ≤ wtF (appendB (deleteB m (zn w)).2 (zn w) (keepD l)).2.files := hw5
          omega
        have B5' : IsBox h5 b S4 (syncB (appendB (deleteB m (zn w)).2 (zn w) (keepD l)).2 (zn w)).2 := B5
        generalize hm5 : (syncB (appendB (deleteB m (zn w)).2 (zn w) (keepD l)).2 (zn w)).2 = mm at *
        refine aEvents_ok ha5 B5' (by omega) hws fun h6 s6 x6 v6 hl6 => ⟨s6, _, rfl, ?_⟩
        rw [hread] at v6 ⊢
        refine PIf.no rfl ?_
        have v2' : View EvE h6 s l := (v2.mod m25 fun c hc => (vs c hc).1).ext x6
        refine eEqual_ok v6 v2' hl ⟨_, rfl, ?_⟩
        rw [decide_eq_true rfl]
        refine PIf.no rfl ?_
        refine H1 hke h6 S4 mm (B5'.ext x6) y2 ?_ ?_ ?_ hwt5
        · exact ((Ext.mod x02).trans m25).trans (Ext.mod x6)
        · intro c hc
          rcases s4 c hc with h | h
          · exact .inl (s3 c h)
          · exact .inr (by omega)
        · intro x
          rw [y3, p3]
          by_cases hx : x = zn w
          · rw [if_pos hx, if_pos hx, d3, if_pos rfl]; simp [nil_app]
          · rw [if_neg hx, if_neg hx, d3, if_neg hx]
      rcases d1 with d1 | d1
      · rw [d1]
        exact PIf.no rfl go
      · rw [d1]
        exact PIf.yes rfl go

/-- an event without fields -/
def evS (id kind : Int) : Ev := ⟨id, kind, 0, 0, 0, 0, false, bs0'⟩
theorem evS_ok {id : Int} (h : 1 ≤ id ∧ id ≤ 500) : evOK (evS id 2) = true ∧ evOK (evS id 13) = true := by
  constructor <;> simp [evOK, evHead, evTail, evS, flR, flS, flT, flU, flD, inE, inI, h.1, h.2]
theorem keep_small {w : ByteArray} {l : List Ev} (hn : nameOK w = true) (hl : l.length ≤ 500) (hok : l.all evOK = true) (hd : ∀ e ∈ l, e.data.size = 0) : keepE w l = 0 := by
  have hp : packEv l = (0, encEvs l) := by unfold packEv; rw [if_neg (by omega), if_pos hok]
  have hlen : ∀ l : List Ev, l.all evOK = true → (∀ e ∈ l, e.data.size = 0) → (l.flatMap fun e => textL (encEv e)).length ≤ l.length * 110 := by
    intro l
    induction l with
    | nil => intro _ _; simp
    | cons e l ih =>
      intro h1 h2
      simp only [List.all_cons, Bool.and_eq_true] at h1
      have h3 := ih h1.2 fun x hx => h2 x (List.mem_cons_of_mem _ hx)
      have h4 := h2 e (by simp)
      have h5 := encEv_len (evOK_head h1.1) (by omega)
      have h6 := putV_len10 (n := (encEv e).length) (by omega)
      have h7 : (textL (encEv e)).length = (putV (encEv e).length).length + (encEv e).length := by simp [textL]
      simp only [List.flatMap_cons, List.length_append, List.length_cons]
      omega
  have h1 := hlen l hok hd
  have h2 := putV_len10 (n := l.length) (by omega)
  have h3 : (encEvs l).length ≤ 1048576 := by
    simp only [encEvs, List.length_append]
    have : l.length * 110 ≤ 500 * 110 := Nat.mul_le_mul_right _ hl
    omega
  unfold keepE
  rw [if_pos hn, hp]
  simp only
  rw [if_neg (by simp), if_neg (by omega)]

theorem aNew_ok {A : Amb} {h : Heap} {b : Nat} {R : Value → Heap → Prop} (H : ∀ h', h'[h.size]? = some (.cells #[ptrV b] t_archive_Archive (0, 0)) → Ext h h' → h'.size = h.size + 1 → R (ptrV h.size) h') : HCalls A P f_archive_New #[ptrV b] h R := by
  refine ok_archive_New ?_
  unfold F_archive_New
  exact New.mk fun h1 _ hb x hs => H h1 hb x hs

abbrev sW : ByteArray := ⟨#[119]⟩
abbrev sX : ByteArray := ⟨#[120]⟩
theorem nameW : nameOK sW = true := by decide
theorem nameX : nameOK sX = true := by decide
theorem wx : ¬ (zn sX = zn sW) := fun h => by have := zn_inj h; revert this; decide
theorem awake20_ok {A : Amb} {h : Heap} {R : Value → Heap → Prop} (H : ∀ h', Ext h h' → R (.bool true) h') : HCalls A P f_wherrylaw20_awake #[] h R := by
  refine ok_wherrylaw20_awake ?_
  unfold F_wherrylaw20_awake
  refine bNew_ok fun b h1 S B x1 hS => ⟨_, rfl, ?_⟩
  refine aNew_ok fun h2 ha x2 hs2 => ⟨_, rfl, ?_⟩
  refine New.mk fun h3 _ hb3 x3 hs3 => ?_
  have B3 := (B.ext x2).ext x3
  have ha3 := x3.blk ha (fun h => h)
  have hs1 : ∀ c, S c → c < h1.size := fun c hc => B.lt hc
  have o3 : Own EvE t_api_Event h3 ⟨some ⟨h2.size, 0, none⟩, 1, 1⟩ [evS 2 2] := Own.lit (E := EvE) (l := [evS 2 2]) hb3 rfl (by simp [maxLen])
  have hk : keepE sW [evS 2 2] = 0 := keep_small nameW (by simp) (by simp [(evS_ok (id := 2) ⟨by decide, by decide⟩).1]) (by simp [evS]; rfl)
  have hd : ∀ e ∈ [evS 2 2], e.data.size ≤ 4194304 := fun e he => by
    obtain rfl := List.mem_singleton.1 he
    exact Nat.zero_le _
  have hx1 := x1.size
  refine aKeep_ok (s := ⟨some ⟨h2.size, 0, none⟩, 1, 1⟩) (l := [evS 2 2]) ha3 B3 calm_new (fun hc => by have := hs1 _ hc; omega) (by simp [newB, wtF]) (by decide) o3.view
    (fun c hc => by simp [Sl.blk] at hc; subst hc; exact ⟨fun hc => by have := hs1 _ hc; omega, by omega⟩) (by simp) hd (fun hne => absurd hk hne) fun _ h4 S4 m4 B4 c4 md4 s4 f4 w4 => ⟨_, rfl, ?_⟩
  have hab : ¬ S h1.size := fun hc => by have := hs1 _ hc; omega
  have ha4 := md4.blk ha3 hab
  have ho4 : View EvE h4 ⟨some ⟨h2.size, 0, none⟩, 1, 1⟩ [evS 2 2] := o3.view.mod md4 fun c hc hc2 => by simp [Sl.blk] at hc; subst hc; have := hs1 _ hc2; omega
  have x03 : Ext h h3 := (x1.trans x2).trans x3
  have x04 : Ext h h4 := x03.more md4 fun c hc => hS c hc
  have hw0 : wtF newB.files = 0 := rfl
  have r1 : readA m4 sW = (0, [evS 2 2]) := read_kept c4 hk hd (by rw [f4, if_pos rfl])
  refine aEvents_ok ha4 B4 (by omega) (by decide) fun h5 s5 x5 v5 l5 => ⟨s5, _, rfl, ?_⟩
  rw [r1] at v5 ⊢
  have ha5 := x5.blk ha4 (fun h => h)
  have r2 : readA m4 sX = (31, []) := by
    have : readB m4 (zn sX) = (bs0, 31) := by rw [calm_read c4, f4, if_neg wx]; rfl
    unfold readA
    rw [if_pos nameX, this]
    rfl
  refine aEvents_ok ha5 (B4.ext x5) (by omega) (by decide) fun h6 s6 x6 v6 l6 => ⟨s6, _, rfl, ?_⟩
  rw [r2] at v6 ⊢
  refine PIf.yes rfl (PIf.yes rfl (PIf.yes rfl ?_))
  have hl5 : s5.len = 1 := by rw [v5.len]; rfl
  refine PIf.yes (by rw [hl5]; rfl) ?_
  refine (v5.ext x6).idx (i := 0) (x := evS 2 2) rfl fun a _ c1 => ?_
  obtain ⟨p0, p1, p2, p3, p4, p5, p6, p7⟩ := ev_at c1
  refine LoadI.mk p0 (LoadI.mk p1 (LoadI.mk p2 (LoadI.mk p3 (LoadI.mk p4 (LoadI.mk p5 (LoadB.mk p6 (LoadS.mk p7 ?_)))))))
  refine ((ho4.ext x5).ext x6).idx (i := 0) (x := evS 2 2) rfl fun a2 _ c2 => ?_
  obtain ⟨q0, q1, q2, q3, q4, q5, q6, q7⟩ := ev_at c2
  refine LoadI.mk q0 (LoadI.mk q1 (LoadI.mk q2 (LoadI.mk q3 (LoadI.mk q4 (LoadI.mk q5 (LoadB.mk q6 (LoadS.mk q7 ?_)))))))
  refine eqEv ⟨_, rfl, ?_⟩
  refine PIf.yes (decide_eq_true rfl) ?_
  refine aFile_ok (by decide) ⟨_, rfl, ?_⟩
  have e : sEq (zn ⟨#[119, 49]⟩) (⟨#[122, 119, 49]⟩ : ByteArray) = true := by rw [sEq_iff]; decide
  rw [e]
  exact H h6 ((x04.trans x5).trans x6)
end Go.Lf.G
