/-
  The statement MemRuns over the formulas.
-/
import Derived.Test.YtdaodhcpiafgfaaLfM8
import Derived.Test.YtdaodhcpiafgfaaLfM12
set_option maxRecDepth 100000
namespace Go.Lf.G
open Go Go.ChangeShapes Go.WideShapes Go.ChangeAt Go.RowKit Go.Proofs.Ytdaodhcpiafgfaa

def StrE : Enc ByteArray where
  enc s := [.string s]
  w := 1
  len _ := rfl
  pos := by omega
  one x v hv := by simp at hv; subst hv; rfl

theorem cells_str {h : Heap} {a : Addr} {x : ByteArray} (c : Cells h a (StrE.enc x)) : hget h a = some (.string x) := by
  have h0 := c 0 _ rfl
  rwa [add_zero] at h0

theorem P_slstr : P.underlying t_sl_string = some (.slice t_string) := by kernel_rfl

theorem arg_strs {H : Type} {enc : TypeId × Value → H} {W : World} {base : Nat} {v : Value} {d : DataW H} {ps : List MemPlace} (hv : Value.okWide P W .any base t_sl_string v) (h : DataW.Trod enc P W 0 (fun _ => true) true t_sl_string v d ps) :
    ∃ (s : Sl) (l : List ByteArray), v = .slice s.p s.len s.cap ∧ View StrE W.heap s l ∧ l.length ≤ Rows.uptoBulk d := by
  obtain ⟨p, len, cap, rfl⟩ := okWide_slice P_slstr hv
  obtain ⟨n, hn⟩ := h
  rcases Deep.open_slice1 P_slstr P_cs hn with ⟨h0, hx⟩ | ⟨a, len', cap', m, n', V, D, Pl, h0, _, hl, _, hm, hx, hc⟩
  · simp [Value.cells] at h0
    obtain ⟨rfl, rfl, rfl⟩ := h0
    exact ⟨⟨none, 0, 0⟩, [], rfl, View.nil, by simp⟩
  · simp [Value.cells] at h0
    obtain ⟨rfl, rfl, rfl⟩ := h0
    have hlm : len ≤ m := by rw [hm]; split <;> omega
    have : ∀ i, i < len → ∃ y : ByteArray, W.cell? (a.add i) = some (.string y) := fun i hi => by
      obtain ⟨h1, h2⟩ := hc i (by omega)
      obtain ⟨y, h3, _⟩ := DataW.trod_string P_str h2
      simp at h3
      exact ⟨y, by rw [h1, h3]⟩
    have : ∃ f : Nat → ByteArray, ∀ i, i < len → W.cell? (a.add i) = some (.string (f i)) :=
      ⟨fun i => if hi : i < len then Classical.choose (this i hi) else ⟨#[]⟩, fun i hi => by simp only [dif_pos hi]; exact Classical.choose_spec (this i hi)⟩
    obtain ⟨f, hf⟩ := this
    refine ⟨⟨some a, len, cap⟩, (List.range len).map f, rfl, ⟨by simp, hl, fun i y hi => ?_⟩, ?_⟩
    · simp only [List.getElem?_map] at hi
      by_cases hil : i < len
      · simp [hil] at hi
        subst hi
        refine ⟨a, rfl, fun j v hj => ?_⟩
        match j, hj with
        | 0, hj =>
          have : v = .string (f i) := by simpa [StrE, eq_comm] using hj
          rw [add_zero, show i * StrE.w = i from Nat.mul_one i, this]
          exact hf i hil
        | j + 1, hj => simp [StrE] at hj
      · simp [Nat.not_lt.1 hil] at hi
    · have e : d = _ := congrArg Prod.fst hx
      rw [e]
      have := bulk_len ((List.range len).map D)
      simp only [Rows.uptoBulk]
      simp at this ⊢
      omega

set_option maxHeartbeats 1000000 in
theorem MemRuns_ok {A : Amb} {h : Heap} {s a : Sl} {l : List Pr} {bs : List ByteArray} {R : Value → Heap → Prop} (v : View PairE h s l) (hl : l.length < 1099511627776) (va : View StrE h a bs) (H : ∀ h', Ext h h' → R (.bool true) h') :
    HCalls A P f_wherrylaw05_MemRuns #[.slice s.p s.len s.cap, .slice a.p a.len a.cap] h R := by
  refine ok_wherrylaw05_MemRuns ?_
  unfold F_wherrylaw05_MemRuns
  refine awake05_ok fun h1 x1 => ⟨_, rfl, PIf.no rfl ?_⟩
  refine New_ok fun h2 T2 x2 hs2 => ⟨_, rfl, ?_⟩
  refine New.mk fun h3 _ hb3 x3 hs3 => ?_
  have x13 : Ext h1 h3 := x2.trans x3
  refine Loop.rule (fun m x h4 => ∃ (i : Nat) (ns : List SNode) (y : Sl), x = ((i : Int), ()) ∧ m = l.length - i ∧ i ≤ l.length ∧ Ext h1 h4 ∧ Tab h4 h1.size ns (putsL [] (l.take i)) ∧ (∀ b, inT h1.size ns b → h1.size ≤ b ∧ b ≠ h2.size ∧ y.blk ≠ some b) ∧
      h4[h2.size]? = some (.cells #[.slice y.p y.len y.cap] t_wherryref05_Table (0, 0)) ∧ Own PairE t_api_Pair h4 y (putsL [] (l.take i)) ∧ (∀ c, y.blk = some c → h2.size < c)) ?_
    ⟨0, [], ⟨none, 0, 0⟩, rfl, rfl, by omega, x13, T2.ext x3, (fun b hb => by
      rcases hb with rfl | ⟨x, hx, _⟩
      · exact ⟨by omega, by omega, by simp [Sl.blk]⟩
      · cases hx), hb3, Own.nil, fun c hc => by simp [Sl.blk] at hc⟩
  rintro K m _ h4 ⟨i, ns, y, rfl, rfl, hi, x4, T4, hz, hb4, o4, hy4⟩ hK
  have hplen := putsL_len (l := l.take i) (t := [])
  simp only [List.length_nil, List.length_take] at hplen
  have sz4 := x4.size
  have hb2lt := blk_lt hb4
  refine PIf.intro (fun hq => ?_) (fun hq => ?_)
  · have hi' : i < l.length := by simp [v.len] at hq; omega
    have hgi := List.getElem?_eq_getElem hi'
    have x04 : Ext h h4 := x1.trans x4
    refine Join.mk fun K1 hK1 => ?_
    refine (v.ext x04).idx hgi fun a1 _ c1 => ?_
    refine LoadS.mk c1.pair.1 (LoadS.mk c1.pair.2.1 (LoadB.mk c1.pair.2.2 ?_))
    refine New.pair fun b1 h9 eb hb9 x9 hs9 => ?_
    refine LoadS.mk (hget_lit hb9 rfl) (LoadS.mk (hget_lit1 hb9 rfl) (LoadB.mk (hget_lit1 hb9 rfl) ?_))
    refine mPut_ok (x := l[i]) (T4.ext x9) (by omega) fun ns10 h10 T10 m10 b10 => ⟨_, rfl, ?_⟩
    have hinlt : ∀ b, inT h1.size ns b → b < h4.size := fun b hb => T4.lt hb
    have hb10 := m10.blk hb9 (fun hc => by have := hinlt _ hc; omega)
    refine LoadS.mk (hget_lit hb10 rfl) (LoadS.mk (hget_lit1 hb10 rfl) (LoadB.mk (hget_lit1 hb10 rfl) ⟨⟨hget_lit hb9 rfl, hget_lit1 hb9 rfl, hget_lit1 hb9 rfl⟩, ?_⟩))
    have hrt10 := m10.blk (x9.blk hb4 (by simp)) (fun hc => (hz _ hc).2.1 rfl)
    have o10 := (o4.ext x9).mod m10 (fun c hc hn => (hz c hn).2.2 hc)
    have sz10 := m10.size
    refine Put_ok (x := l[i]) hrt10 o10 (by omega) fun y11 h11 o11 hb11 m11 bl11 => ⟨_, rfl, ?_⟩
    rw [← putsL_take hgi] at T10 o11
    refine PIf.no (by simp) ?_
    have T11 : Tab h11 h1.size ns10 (putsL [] (l.take (i + 1))) := T10.mod m11 (fun b hb e => by
      rcases b10 b hb with h5 | h5
      · exact (hz b h5).2.1 e
      · omega)
    have sz11 := m11.size
    generalize hM : putsL [] (l.take (i + 1)) = M at *
    have hMl : M.length ≤ 1099511627776 := by
      have := putsL_len (l := l.take (i + 1)) (t := [])
      rw [hM] at this
      simp only [List.length_nil, List.length_take] at this
      omega
    have x411 : Ext h1 h11 := ((x4.trans x9).then (m10.weak fun c _ hc => .inr (hz c hc).1)).then (m11.weak fun c _ hc => .inr (by have := x2.size; omega))
    have hz11 : ∀ b, inT h1.size ns10 b → h1.size ≤ b ∧ b ≠ h2.size ∧ y11.blk ≠ some b := fun b hb => by
      rcases b10 b hb with h5 | h5
      · have h6 := hz b h5
        have h7 := hinlt b h5
        refine ⟨h6.1, h6.2.1, fun e => ?_⟩
        rcases bl11 b e with h8 | h8
        · exact h6.2.2 h8
        · omega
      · refine ⟨by omega, by omega, fun e => ?_⟩
        rcases bl11 b e with h8 | h8
        · have := o4.lt h8; omega
        · have := T10.lt hb; omega
    have hy11 : ∀ c, y11.blk = some c → h2.size < c := fun c hc => (bl11 c hc).elim (hy4 c) fun h5 => by omega
    refine mLen_ok T11 ⟨_, _, rfl, ?_⟩
    refine rLen_ok hb11 o11.view hMl T11.good ⟨_, _, rfl, ?_⟩
    have hnext : ∀ h14, Ext h11 h14 → K1 () h14 := fun h14 x14 => hK1 _ _ (hK (l.length - (i + 1)) _ _ (by omega) ⟨i + 1, ns10, y11, by rw [wrap_succ (by omega)], rfl, by omega, x411.trans x14, by rw [hM]; exact T11.ext x14, hz11, x14.blk hb11 (by simp), by rw [hM]; exact o11.ext x14, hy11⟩)
    refine Join.mk fun K2 hK2 => ?_
    have hk2 : K2 (false, ()) h11 := hK2 _ _ (PIf.no rfl (PIf.intro (fun hq => ?_) (fun hq => hnext h11 Mod.refl)))
    · refine PIf.no (by simp) ?_
      have : (((sumSz M : Nat) : Int) != ((sumSz M : Nat) : Int)) = false := by simp
      rw [this]
      exact hk2
    · have hia : i < bs.length := by simp [va.len] at hq; omega
      have hga := List.getElem?_eq_getElem hia
      have va11 : View StrE h11 a bs := va.ext (x1.trans x411)
      refine va11.idx hga fun a1 _ c1 => ?_
      refine LoadS.mk (cells_str c1) ?_
      refine mGet_ok T11 fun h15 x15 => ⟨_, _, _, _, rfl, ?_⟩
      refine New.pair fun b2 h19 eb2 hb19 x19 hs19 => ?_
      have x1119 : Ext h11 h19 := x15.trans x19
      refine (va11.ext x1119).idx hga fun a2 _ c2 => ?_
      refine LoadS.mk (cells_str c2) ?_
      refine rGet_ok (x1119.blk hb11 (by simp)) (o11.ext x1119).view hMl fun h20 x20 => ⟨_, _, _, _, rfl, ?_⟩
      refine New.pair fun b3 h24 eb3 hb24 x24 hs24 => ?_
      have hb2' := (x20.trans x24).blk hb19 (by simp)
      refine Join.mk fun K3 hK3 => ?_
      refine LoadS.mk (hget_lit hb2' rfl) (LoadS.mk (hget_lit1 hb2' rfl) (LoadB.mk (hget_lit1 hb2' rfl) (LoadS.mk (hget_lit hb24 rfl) (LoadS.mk (hget_lit1 hb24 rfl) (LoadB.mk (hget_lit1 hb24 rfl) ?_)))))
      refine neqPair ⟨_, rfl, ?_⟩
      rw [decide_eq_true rfl]
      refine PIf.no rfl (PIf.no (by simp) ?_)
      have x1124 : Ext h11 h24 := x1119.trans (x20.trans x24)
      refine (va11.ext x1124).idx hga fun a3 ha3 c3 => ?_
      refine LoadS.mk (cells_str c3) ?_
      refine mFrom_ok (T11.ext x1124) fun fv h27 it27 x27 _ => ⟨_, rfl, ?_⟩
      have hdl : (M.drop (atK bs[i] M)).length ≤ 1099511627776 := by simp; omega
      refine Collect_ok it27 (fun _ _ => rfl) hdl fun w h28 o28 _ x28 => ⟨w, rfl, ?_⟩
      have x1128 : Ext h11 h28 := x1124.trans (x27.trans x28)
      refine (va11.ext x1128).idx hga fun a4 ha4 c4 => ?_
      refine LoadS.mk (cells_str c4) ?_
      rw [ha3] at ha4
      cases ha4
      refine ⟨x27.hget (cells_str c3), cells_str c3, ?_⟩
      refine rFrom_ok (x1128.blk hb11 (by simp)) (o11.ext x1128).view hMl fun z vz => ⟨z, rfl, ?_⟩
      refine Same_ok o28.view vz hdl ⟨_, rfl, ?_⟩
      rw [decide_eq_true rfl]
      exact hK3 _ _ (PIf.no rfl (hnext h28 x1128))
  · have hi' : i = l.length := by simp [v.len] at hq; omega
    rw [hi', List.take_length] at T4 o4
    rw [hi', List.take_length, Nat.min_self] at hplen
    refine mFrom_ok T4 fun fv h31 it x31 _ => ⟨_, rfl, ?_⟩
    rw [drop_empty] at it
    refine Collect_ok it (fun _ _ => rfl) (by omega) fun w h32 o32 _ x32 => ⟨w, rfl, ?_⟩
    have xx : Ext h4 h32 := x31.trans x32
    refine rFrom_ok (xx.blk hb4 (by simp)) (o4.ext xx).view (by omega) fun z vz => ⟨z, rfl, ?_⟩
    rw [drop_empty] at vz
    refine Same_ok o32.view vz (by omega) ⟨_, rfl, ?_⟩
    rw [decide_eq_true rfl]
    exact H h32 ((x1.trans x4).trans xx)
end Go.Lf.G
