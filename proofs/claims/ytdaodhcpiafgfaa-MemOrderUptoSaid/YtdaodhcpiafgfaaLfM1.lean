/-
  Contracts of the functions over lists of pairs.
-/
import Derived.Test.YtdaodhcpiafgfaaLfG1
import Derived.Test.YtdaodhcpiafgfaaLfL
import Derived.Laws.StructEq
import Derived.ChangeKeysEq
set_option maxRecDepth 100000
namespace Go.Lf.G
open Go

theorem P_pair : P.underlying t_api_Pair = some (.struct (P.fieldsOf t_api_Pair)) := by kernel_rfl
theorem P_pair2 : (P.stoodInHeld t_api_Pair = false) := by kernel_rfl
theorem P_pair3 : (P.eqGuardType P.depth t_api_Pair = false) := by kernel_rfl
theorem P_pair4 : (P.fieldsOf t_api_Pair).toList = [⟨ "Key", t_string, 0, false, "", "", 0⟩, ⟨ "Val", t_string, 1, false, "", "", 16⟩, ⟨ "Gone", t_bool, 2, false, "", "", 32⟩] := by kernel_rfl
theorem P_str : P.underlying t_string = some .string := by kernel_rfl
theorem P_bool : P.underlying t_bool = some .bool := by kernel_rfl
theorem P_str2 : P.plainKey t_string = true := by kernel_rfl
theorem P_bool2 : P.plainKey t_bool = true := by kernel_rfl

theorem toList_inj {a b : ByteArray} : (a.toList == b.toList) = decide (a = b) := by
  rw [ByteArray.toList_eq, ByteArray.toList_eq]
  rw [Bool.eq_iff_iff]
  simp [ByteArray.ext_iff, ← Array.toList_inj]

theorem neqPair {A : Amb} {o1 o2 : Operand} {x y : Pr} {h : Heap} {K : Value → Heap → Prop} (H : K (.bool (!decide (x = y))) h) :
    RunK A P (do eqGuard .neq t_api_Pair o1 o2 (.agg #[.string x.key, .string x.val, .bool x.gone]) (.agg #[.string y.key, .string y.val, .bool y.gone]); binOp .neq t_api_Pair (.agg #[.string x.key, .string x.val, .bool x.gone]) (.agg #[.string y.key, .string y.val, .bool y.gone])) h K := by
  intro n
  refine ⟨_, h, n, ?_, H⟩
  have e : decide (x = y) = (decide (x.key = y.key) && (decide (x.val = y.val) && decide (x.gone = y.gone))) := by
    cases x; cases y; simp
  have h1 : ∀ w, (part t_string #[.string x.key, .string x.val, .bool x.gone] 0).run P w = .ok (.string x.key) w := fun w => run_part_plain w P_str2 rfl
  have h2 : ∀ w, (part t_string #[.string x.key, .string x.val, .bool x.gone] 1).run P w = .ok (.string x.val) w := fun w => run_part_plain w P_str2 rfl
  have h3 : ∀ w, (part t_bool #[.string x.key, .string x.val, .bool x.gone] 2).run P w = .ok (.bool x.gone) w := fun w => run_part_plain w P_bool2 rfl
  have h4 : ∀ w, (part t_string #[.string y.key, .string y.val, .bool y.gone] 0).run P w = .ok (.string y.key) w := fun w => run_part_plain w P_str2 rfl
  have h5 : ∀ w, (part t_string #[.string y.key, .string y.val, .bool y.gone] 1).run P w = .ok (.string y.val) w := fun w => run_part_plain w P_str2 rfl
  have h6 : ∀ w, (part t_bool #[.string y.key, .string y.val, .bool y.gone] 2).run P w = .ok (.bool y.gone) w := fun w => run_part_plain w P_bool2 rfl
  rw [Sem.run_bind, run_eqGuard_agg _ _ _ _ _ _ _ P_pair3, Result.andThen_ok, run_neq_struct, run_equalIn_agg _ _ _ _ _ P_pair P_pair2, P_pair4]
  simp only [Op.eqFields, Sem.run_bind, Sem.run_ite, h1, h2, h3, h4, h5, h6, Result.andThen_ok, run_equalIn_string _ _ _ _ _ P_str, run_equalIn_bool' _ _ _ _ _ P_bool]
  rw [e, toList_inj, toList_inj]
  by_cases k1 : x.key = y.key <;> by_cases k2 : x.val = y.val <;> by_cases k3 : x.gone = y.gone <;> simp [k1, k2, k3, Result.andThen]

theorem Same_ok {A : Amb} {h : Heap} {a b : Sl} {la lb : List Pr} {R : Value → Heap → Prop} (va : View PairE h a la) (vb : View PairE h b lb) (hl : la.length ≤ 1099511627776)
    (H : R (.bool (decide (la = lb))) h) : HCalls A P f_wherryref05_Same #[.slice a.p a.len a.cap, .slice b.p b.len b.cap] h R := by
  refine ok_wherryref05_Same ?_
  unfold F_wherryref05_Same
  rw [va.len, vb.len]
  refine PIf.intro (fun hc => ?_) (fun hc => ?_)
  · have : la ≠ lb := by rintro rfl; simp at hc
    simpa [this] using H
  · have hlen : la.length = lb.length := by simp at hc; omega
    refine Loop.rule (fun m x h1 => ∃ i : Nat, x = ((i : Int), ()) ∧ h1 = h ∧ m = la.length - i ∧ i ≤ la.length ∧ la.take i = lb.take i) ?_ ⟨0, rfl, rfl, rfl, by omega, by simp⟩
    rintro K m _ _ ⟨i, rfl, rfl, rfl, hi, he⟩ hK
    refine PIf.intro (fun hc => ?_) (fun hc => ?_)
    · have hi' : i < la.length := by simpa using hc
      rw [← va.len]
      refine va.idx (List.getElem?_eq_getElem hi') fun a1 _ c1 => ?_
      refine LoadS.mk (c1.pair.1) (LoadS.mk c1.pair.2.1 (LoadB.mk c1.pair.2.2 ?_))
      rw [← vb.len]
      refine vb.idx (List.getElem?_eq_getElem (by omega)) fun a2 _ c2 => ?_
      refine LoadS.mk (c2.pair.1) (LoadS.mk c2.pair.2.1 (LoadB.mk c2.pair.2.2 ?_))
      refine neqPair ⟨_, rfl, ?_⟩
      refine PIf.intro (fun hq => ?_) (fun hq => ?_)
      · have : la ≠ lb := by rintro rfl; simp at hq
        simpa [this] using H
      · simp at hq
        refine hK _ _ _ ?_ ⟨i + 1, by rw [wrap_succ (by omega)], rfl, rfl, by omega, ?_⟩
        · omega
        · rw [List.take_add_one, List.take_add_one, he, List.getElem?_eq_getElem hi', List.getElem?_eq_getElem (by omega), hq]
    · have hi' : i = la.length := by simp at hc; omega
      subst hi'
      rw [List.take_length, hlen, List.take_length] at he
      simpa [he] using H

/-! ### the document's table -/
def wrongP (x : Pr) : Int :=
  if (decide (x.key = ⟨#[]⟩) || (x.gone && !decide (x.val = ⟨#[]⟩))) then 1 else if (decide (x.key.size > 64) || decide (x.val.size > 8192)) then 2 else 0

theorem sEq_iff {a b : ByteArray} : sEq a b = decide (a = b) := toList_inj

theorem Wrong_ok {A : Amb} {h : Heap} {x : Pr} {R : Value → Heap → Prop} (H : ∀ h', Ext h h' → h.size ≤ h'.size → R (.int .i64 (wrongP x)) h') :
    HCalls A P f_wherryref05_Wrong #[.agg #[.string x.key, .string x.val, .bool x.gone]] h R := by
  refine ok_wherryref05_Wrong ?_
  unfold F_wherryref05_Wrong
  refine New.mk fun h1 _ hb hx hsz => ?_
  have H1 := H h1 hx (by omega)
  unfold wrongP at H1
  refine Join.mk fun K hK => ?_
  have hbad : (decide (x.key = ⟨#[]⟩) || (x.gone && !decide (x.val = ⟨#[]⟩))) = true → K (true, ()) h1 := fun hc => hK _ _ (PIf.yes rfl (by rw [if_pos hc] at H1; exact H1))
  have hgood : (decide (x.key = ⟨#[]⟩) || (x.gone && !decide (x.val = ⟨#[]⟩))) = false → K (false, ()) h1 := fun hc => hK _ _ (PIf.no rfl (by
    rw [if_neg (by simp [hc])] at H1
    refine Join.mk fun K1 hK1 => ?_
    refine LoadS.mk (hget_lit hb rfl) ?_
    refine PIf.intro (fun hq => ?_) (fun hq => ?_)
    · refine hK1 _ _ (PIf.yes rfl ?_)
      rw [if_pos (by simp at hq; simp; omega)] at H1
      exact H1
    · refine LoadS.mk (hget_lit1 hb rfl) (hK1 _ _ ?_)
      simp at hq
      refine PIf.intro (fun hq2 => ?_) (fun hq2 => ?_)
      · rw [if_pos (by simp at hq2; simp; omega)] at H1
        exact H1
      · rw [if_neg (by simp at hq2; simp; omega)] at H1
        exact H1))
  refine LoadS.mk (hget_lit hb rfl) ?_
  rw [sEq_iff]
  refine PIf.intro (fun hq => ?_) (fun hq => ?_)
  · exact hbad (by simp at hq; simp [hq])
  · refine LoadB.mk (hget_lit1 hb rfl) ?_
    simp at hq
    refine PIf.intro (fun hg => ?_) (fun hg => ?_)
    · refine LoadS.mk (hget_lit1 hb rfl) ?_
      rw [sEq_iff]
      cases hv : (!decide (x.val = ⟨#[]⟩))
      · exact hgood (by simp [hq, hg, hv])
      · exact hbad (by simp [hq, hg, hv])
    · exact hgood (by simp [hq, hg])

def lowK (key : ByteArray) (l : List Pr) : List Pr := l.takeWhile fun q => sLt q.key key
def atK (key : ByteArray) (l : List Pr) : Nat := (lowK key l).length
def thereK (key : ByteArray) (l : List Pr) : Bool := match l[atK key l]? with | some q => decide (q.key = key) | none => false

theorem atK_le (key : ByteArray) (l : List Pr) : atK key l ≤ l.length := (List.takeWhile_sublist _).length_le

theorem takeWhile_step {α : Type} {p : α → Bool} : ∀ {l : List α} {i : Nat}, i ≤ (l.takeWhile p).length → (∀ x, l[i]? = some x → p x = true → i < (l.takeWhile p).length) ∧ (∀ x, l[i]? = some x → p x = false → i = (l.takeWhile p).length) ∧ (l[i]? = none → i = (l.takeWhile p).length)
  | [], i, h => by simp at h; subst h; simp
  | y :: l, 0, h => by
    refine ⟨fun x hx hp => ?_, fun x hx hp => ?_, fun h => by simp at h⟩
    · simp at hx; subst hx; simp [hp]
    · simp at hx; subst hx; simp [hp]
  | y :: l, i + 1, h => by
    rw [List.takeWhile_cons] at h ⊢
    split at h
    · rename_i hy
      have ih := takeWhile_step (p := p) (l := l) (i := i) (by simpa using h)
      simp only [hy, if_true, List.length_cons]
      refine ⟨fun x hx hp => ?_, fun x hx hp => ?_, fun hn => ?_⟩
      · have := ih.1 x (by simpa using hx) hp; omega
      · have := ih.2.1 x (by simpa using hx) hp; omega
      · have := ih.2.2 (by simpa using hn); omega
    · simp at h

theorem at_ok {A : Amb} {h : Heap} {b : Nat} {T : TypeId} {fr : Nat × Nat} {s : Sl} {l : List Pr} {key : ByteArray} {R : Value → Heap → Prop} (hb : h[b]? = some (.cells #[.slice s.p s.len s.cap] T fr)) (v : View PairE h s l) (hl : l.length ≤ 1099511627776)
    (H : R (.tuple #[.int .i64 (atK key l : Int), .bool (thereK key l)]) h) : HCalls A P f_wherryref05_Table_at #[.pointer (some ⟨b, 0, none⟩), .string key] h R := by
  refine ok_wherryref05_Table_at ?_
  unfold F_wherryref05_Table_at
  have hle := atK_le key l
  refine Loop.rule (fun m x h1 => ∃ i : Nat, x = ((i : Int), ()) ∧ h1 = h ∧ m = l.length - i ∧ i ≤ atK key l) ?_ ⟨0, rfl, rfl, rfl, by omega⟩
  rintro K m _ h1 ⟨i, rfl, hh, rfl, hi⟩ hK
  subst hh
  have hst := takeWhile_step (p := fun q : Pr => sLt q.key key) (l := l) hi
  refine Join.mk fun K1 hK1 => ?_
  have hend : i = atK key l → K1 (false, ()) h1 := fun e => hK1 _ _ (PIf.no rfl (by
    refine LoadL.mk (hget_lit hb rfl) ?_
    unfold thereK at H
    rw [← e] at H
    refine PIf.intro (fun hq => ?_) (fun hq => ?_)
    · have hi' : i < l.length := by simp [v.len] at hq; omega
      refine LoadL.mk (hget_lit hb rfl) ?_
      refine v.idx (List.getElem?_eq_getElem hi') fun a1 _ c1 => ?_
      refine LoadS.mk (c1.pair.1) ?_
      rw [sEq_iff]
      rw [List.getElem?_eq_getElem hi'] at H
      exact H
    · have hi' : l.length ≤ i := by simp [v.len] at hq; omega
      rw [List.getElem?_eq_none hi'] at H
      exact H))
  refine LoadL.mk (hget_lit hb rfl) ?_
  refine PIf.intro (fun hq => ?_) (fun hq => ?_)
  · have hi' : i < l.length := by simp [v.len] at hq; omega
    refine LoadL.mk (hget_lit hb rfl) ?_
    refine v.idx (List.getElem?_eq_getElem hi') fun a1 _ c1 => ?_
    refine LoadS.mk (c1.pair.1) ?_
    cases hs : sLt l[i].key key
    · exact hend (hst.2.1 _ (List.getElem?_eq_getElem hi') hs)
    · have := hst.1 _ (List.getElem?_eq_getElem hi') hs
      refine hK1 _ _ (PIf.yes rfl (hK _ _ _ ?_ ⟨i + 1, by rw [wrap_succ (by omega)], rfl, rfl, this⟩))
      omega
  · have hi' : l.length ≤ i := by simp [v.len] at hq; omega
    exact hend (hst.2.2 (List.getElem?_eq_none hi'))
end Go.Lf.G
